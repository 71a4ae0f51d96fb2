/- The engine, 7: comparing structs; parts; the operations that look at no memory, all. -/
import Derived.Test.YtcjlhjoobchabaaGreatDoorEng6
namespace Go.Proofs.YtcjlhjoobchabaaGreatDoor
open Go.RowKit
set_option linter.unusedVariables false
set_option linter.unusedSimpArgs false
variable {η : Nat → Int} {L L' : LM}

noncomputable def aggD (d : TypeDesc) : Bool := match d with | .struct _ | .array _ _ => true | _ => false
/-- A part of a struct's or an array's cells. -/
noncomputable def apart (P : Program) (t : TypeId) (l : AV) (off : Nat) : Option AV :=
  ob (P.underlying t) fun d => bcase (aggD d) (ob (P.info? t) fun i => ob (dropN off l) fun m => takeK i.size m fun r => some (.agg r)) (nth l off)
theorem run_isAgg {P : Program} {t : TypeId} {d : TypeDesc} (h : P.underlying t = some d) (w : World) : (isAgg t).run P w = .ok (aggD d) w := by
  cases d <;> simp [isAgg, run_underlying h, aggD]
theorem apart_some {P : Program} {t : TypeId} {l r : AV} {off : Nat} {Vs : List Value} (h : apart P t l off = some r) (hl : DL η L l Vs) : ∃ R, D η L r R ∧ ∀ w, (part t Vs.toArray off).run P w = .ok R w := by
  obtain ⟨d, hd, h⟩ := ob_some h
  cases ha : aggD d
  · rw [ha, bcase_false] at h
    obtain ⟨V, hV, hn⟩ := nth_some h hl
    refine ⟨V, hV, fun w => ?_⟩
    simp [part, run_isAgg hd, ha, hn]
  · rw [ha, bcase_true] at h
    obtain ⟨i, hi, h⟩ := ob_some h
    obtain ⟨m, hm, h⟩ := ob_some h
    obtain ⟨hm', _⟩ := dropN_some hm hl
    obtain ⟨q, hq, _, h⟩ := takeK_some h hm'
    cases h
    refine ⟨_, D_agg hq, fun w => ?_⟩
    have hs : P.cellsOf t = i.size := by simp [Program.cellsOf, hi]
    simp [part, run_isAgg hd, ha, run_sizeOf w hi, hs, List.drop_take, List.extract_eq_take_drop]

/-- Two values of a type that is no struct. -/
noncomputable def aleaf (C : Cfg) (d : TypeDesc) (t : TypeId) (u v : AV) : Option Bool := match d with
  | .bool => (match u with | .bool a => (match v with | .bool b => some (beqA a b) | _ => none) | _ => none)
  | .string => (match u with | .str a => (match v with | .str b => some (strEq a b) | _ => none) | _ => none)
  | .int _ => (match u with
    | .int .. | .sym .. => ob (abin0 C .eql t u v) fun r => (match r with | .bool b => some b | _ => none)
    | _ => none)
  | _ => none
theorem aleaf_some {C : Cfg} (hC : C.Ok η) {d : TypeDesc} {t : TypeId} {u v : AV} {U V : Value} {b : Bool} {m : Nat} (hd : C.P.underlying t = some d) (h : aleaf C d t u v = some b) (hu : D η L u U) (hv : D η L v V) (w : World) :
    (Op.equalIn (m + 1) t U V).run C.P w = .ok b w := by
  cases d <;> simp only [aleaf] at h <;> try (cases h; done)
  case bool =>
    cases u <;> simp only at h <;> try (cases h; done)
    cases v <;> simp only at h <;> try (cases h; done)
    cases h; cases hu; cases hv
    simp [Op.equalIn, run_underlying hd, beqA_eq]
  case string =>
    cases u <;> simp only at h <;> try (cases h; done)
    cases v <;> simp only at h <;> try (cases h; done)
    cases h; cases hu; cases hv
    simp [Op.equalIn, run_underlying hd, strEq_eq, beq_toListBytes]
  case int k0 =>
    have hu' : ∃ k a, U = .int k a := by
      cases u <;> simp only at h <;> try (cases h; done)
      · cases hu; exact ⟨_, _, rfl⟩
      · cases hu; exact ⟨_, _, rfl⟩
    have h' : ob (abin0 C .eql t u v) (fun r => (match r with | .bool b => some b | _ => none)) = some b := by
      cases u <;> simp only at h <;> first | exact h | cases h
    have hv' : ∃ k a, V = .int k a := by
      obtain ⟨r, hr, _⟩ := ob_some h'
      cases u <;> simp only at h <;> try (cases h; done)
      all_goals (cases v <;> simp only [abin0] at hr <;> first | (cases hv; exact ⟨_, _, rfl⟩) | cases hr)
    obtain ⟨k, a, rfl⟩ := hu'
    obtain ⟨k', a', rfl⟩ := hv'
    obtain ⟨r, hr, h'⟩ := ob_some h'
    obtain ⟨R, hR, hrun⟩ := abin0_some hC hr hu hv
    cases r <;> simp only at h' <;> cases h'
    cases hR
    have := hrun w
    by_cases hk : k = k'
    · subst hk
      simp [binOp, Op.intCmp, Sem.run_pure] at this
      simp [Op.equalIn, run_underlying hd, this]
    · simp [binOp, hk, stuck, Sem.run] at this

noncomputable def aeqFs (ih : TypeId → AV → AV → Option Bool) (P : Program) (a b : AV) (fs : List Field) : Option Bool :=
  List.rec (some true) (fun f _ rest => ob (apart P f.type a f.offset) fun x => ob (apart P f.type b f.offset) fun y => ob (ih f.type x y) fun r => bcase r rest (some false)) fs
noncomputable def aeqN (C : Cfg) (m : Nat) : TypeId → AV → AV → Option Bool :=
  Nat.rec (fun _ _ _ => none) (fun _ ih t u v => ob (C.P.underlying t) fun d => match d with
    | .struct fs => tst (memN t C.eqs) (match u with | .agg a => (match v with | .agg b => aeqFs ih C.P a b fs.toList | _ => none) | _ => none)
    | d => aleaf C d t u v) m
theorem aeqFs_some {C : Cfg} {ih : TypeId → AV → AV → Option Bool} {d : Nat} (hih : ∀ t u v b U V, ih t u v = some b → D η L u U → D η L v V → ∀ w, (Op.equalIn d t U V).run C.P w = .ok b w) {a b : AV} {As Bs : List Value} (ha : DL η L a As) (hb : DL η L b Bs) :
    ∀ (fs : List Field) (r : Bool), (∀ f ∈ fs, f.name ≠ "_") → aeqFs ih C.P a b fs = some r → ∀ w, (Op.eqFields d As.toArray Bs.toArray fs).run C.P w = .ok r w
  | [], r, _, h, w => by cases h; rfl
  | f :: fs, r, hn, h, w => by
    obtain ⟨x, hx, h⟩ := ob_some (h : ob (apart C.P f.type a f.offset) (fun x => ob (apart C.P f.type b f.offset) fun y => ob (ih f.type x y) fun r => bcase r (aeqFs ih C.P a b fs) (some false)) = some r)
    obtain ⟨y, hy, h⟩ := ob_some h
    obtain ⟨q, hq, h⟩ := ob_some h
    obtain ⟨X, hX, rx⟩ := apart_some hx ha
    obtain ⟨Y, hY, ry⟩ := apart_some hy hb
    have he := hih _ _ _ _ _ _ hq hX hY
    have hf := hn f List.mem_cons_self
    cases q
    · cases h
      simp [Op.eqFields, hf, rx, ry, he]
    · have := aeqFs_some hih ha hb fs r (fun g hg => hn g (List.mem_cons_of_mem _ hg)) h w
      simp [Op.eqFields, hf, rx, ry, he, this]
theorem aeqN_some {C : Cfg} (hC : C.Ok η) : ∀ (m d : Nat) (t : TypeId) (u v : AV) (b : Bool) (U V : Value), m ≤ d → aeqN C m t u v = some b → D η L u U → D η L v V → ∀ w, (Op.equalIn d t U V).run C.P w = .ok b w
  | 0, d, t, u, v, b, U, V, _, h, _, _, w => by cases h
  | m + 1, 0, t, u, v, b, U, V, hd, h, _, _, w => by omega
  | m + 1, d + 1, t, u, v, b, U, V, hd, h, hu, hv, w => by
    obtain ⟨ds, hds, h⟩ := ob_some (h : ob (C.P.underlying t) (fun d => match d with
      | .struct fs => tst (memN t C.eqs) (match u with | .agg a => (match v with | .agg b => aeqFs (aeqN C m) C.P a b fs.toList | _ => none) | _ => none)
      | d => aleaf C d t u v) = some b)
    cases ds
    case struct fs =>
      obtain ⟨hm, h⟩ := tst_some h
      obtain ⟨h1, h2, h3⟩ := hC.eqs t (memN_true hm)
      cases u <;> simp only at h <;> try (cases h; done)
      cases v <;> simp only at h <;> try (cases h; done)
      obtain ⟨As, hA, rfl⟩ := D_agg_inv hu
      obtain ⟨Bs, hB, rfl⟩ := D_agg_inv hv
      have hf : C.P.fieldsOf t = fs := by simp [Program.fieldsOf, hds]
      rw [run_equalIn_struct w d t _ _ (by rw [hf]; exact hds) h1, hf]
      exact aeqFs_some (fun t u v b U V h hu hv w => aeqN_some hC m d t u v b U V (by omega) h hu hv w) hA hB fs.toList b (h3 fs hds) h w
    all_goals exact aleaf_some hC hds h hu hv w

noncomputable def isConstA (x : Operand) : Bool := match x with | .const _ => true | _ => false
/-- An operation on two values. -/
noncomputable def abin (C : Cfg) (op : BinOp) (t : TypeId) (y : Operand) (u v : AV) : Option AV := match u with
  | .agg _ => tst (memN t C.eqs) (ob (aeqN C (nat_lit 20) t u v) fun b => eqOp op b)
  | .niface => (match v with | .niface => tst (isConstA y) (tst (isDIface (C.P.underlying t)) (eqOp op true)) | _ => none)
  | u => tst (oneA u) (abin0 C op t u v)
theorem D_nilIface {v : AV} (h : oneA v = true) (hv : D η L v .nilIface) : v = .niface := by
  cases v <;> first | rfl | (cases h; done) | (cases hv; done) | skip
  all_goals (exfalso; first | (obtain ⟨_, _, e⟩ := D_ptr hv; cases e; done) | (obtain ⟨_, _, e⟩ := D_yieldf hv; cases e; done) | (obtain ⟨_, _, e⟩ := D_slice hv; cases e; done) | (obtain ⟨_, _, _, _, _, e⟩ := D_vslice hv; cases e; done) | (obtain ⟨_, _, _, _, _, _, e⟩ := D_eslice hv; cases e; done) | (obtain ⟨_, _, e⟩ := D_map hv; cases e; done) | (obtain ⟨_, _, _, _, e⟩ := D_func hv; cases e; done) | (obtain ⟨_, _, e⟩ := D_iface hv; cases e; done))
theorem eqGuard_other {P : Program} {op : BinOp} {t : TypeId} {x y : Operand} {U V : Value} (h : ¬ (U = .nilIface ∧ V = .nilIface)) (h2 : ¬ ((∃ a, U = .agg a) ∧ ∃ b, V = .agg b)) (w : World) : (eqGuard op t x y U V).run P w = .ok () w := by
  unfold eqGuard
  cases op <;> simp <;> (split <;> first | (exfalso; exact h ⟨rfl, rfl⟩) | (exfalso; exact h2 ⟨⟨_, rfl⟩, _, rfl⟩) | simp)
theorem abin_some {C : Cfg} (hC : C.Ok η) {op : BinOp} {t : TypeId} {x y : Operand} {u v r : AV} {U V : Value} (h : abin C op t y u v = some r) (hu : D η L u U) (hv : D η L v V) :
    ∃ R, D η L r R ∧ ∀ w, (do eqGuard op t x y U V; binOp op t U V : Sem Value).run C.P w = .ok R w := by
  have key : ∀ R, (∀ w, (eqGuard op t x y U V).run C.P w = .ok () w) → (∀ w, (binOp op t U V).run C.P w = .ok R w) → ∀ w, (do eqGuard op t x y U V; binOp op t U V : Sem Value).run C.P w = .ok R w := by
    intro R h1 h2 w
    rw [Sem.run_bind, h1 w, Result.andThen_ok, h2 w]
  by_cases hagg : ∃ a, u = .agg a
  · obtain ⟨a, rfl⟩ := hagg
    obtain ⟨hm, h⟩ := tst_some (h : tst (memN t C.eqs) (ob (aeqN C 20 t (.agg a) v) fun b => eqOp op b) = some r)
    obtain ⟨b, hb, h⟩ := ob_some h
    obtain ⟨h1, h2, h3⟩ := hC.eqs t (memN_true hm)
    obtain ⟨As, hA, rfl⟩ := D_agg_inv hu
    have hV : ∃ B, V = .agg B := by
      obtain ⟨ds, hds, hb⟩ := ob_some (hb : ob (C.P.underlying t) (fun d => match d with
        | .struct fs => tst (memN t C.eqs) (match AV.agg a with | .agg a => (match v with | .agg b => aeqFs (aeqN C 19) C.P a b fs.toList | _ => none) | _ => none)
        | d => aleaf C d t (.agg a) v) = some b)
      cases ds <;> try (cases hb; done)
      obtain ⟨_, hb⟩ := tst_some hb
      cases v with
      | agg b0 => obtain ⟨Bs, _, rfl⟩ := D_agg_inv hv; exact ⟨_, rfl⟩
      | _ => cases hb
    obtain ⟨B, rfl⟩ := hV
    have he := aeqN_some hC 20 10000 t _ _ _ _ _ (by omega) hb hu hv
    obtain ⟨R, hR, hr⟩ := of_equal (P := C.P) (η := η) (L := L) (t := t) h (fun w => by rw [run_eql_struct, he w]; rfl) (fun w => by rw [run_neq_struct, he w]; rfl)
    exact ⟨R, hR, key R (fun w => run_eqGuard_agg w op t x y _ _ h2) hr⟩
  · by_cases hni : u = .niface
    · subst hni
      cases v <;> simp only [abin] at h <;> try (cases h; done)
      obtain ⟨hc, h⟩ := tst_some h
      obtain ⟨hd, h⟩ := tst_some h
      obtain ⟨m, hm⟩ := isDIface_true hd
      have hp : C.P.underlying t = some (.interface (C.P.methodsAt t)) := by rw [hm]; simp [Program.methodsAt, hm]
      cases hu; cases hv
      obtain ⟨R, hR, hr⟩ := of_equal (P := C.P) (η := η) (L := L) (t := t) h (fun w => run_eql_nil_nil w t hp) (fun w => run_neq_nil_nil w t hp)
      refine ⟨R, hR, key R (fun w => ?_) hr⟩
      cases y <;> simp [isConstA] at hc
      cases op <;> simp [eqGuard]
    · have h0 : tst (oneA u) (abin0 C op t u v) = some r := by
        cases u <;> first | exact h | exact absurd rfl hni | exact absurd ⟨_, rfl⟩ hagg
      obtain ⟨h1, h0⟩ := tst_some h0
      obtain ⟨R, hR, hr⟩ := abin0_some hC h0 hu hv
      refine ⟨R, hR, key R (fun w => eqGuard_other ?_ ?_ w) hr⟩
      · rintro ⟨rfl, _⟩
        exact hni (D_nilIface h1 hu)
      · rintro ⟨⟨a, rfl⟩, _⟩
        exact absurd (oneA_true h1 hu) (by simp [Value.oneCell'])
end Go.Proofs.YtcjlhjoobchabaaGreatDoor
