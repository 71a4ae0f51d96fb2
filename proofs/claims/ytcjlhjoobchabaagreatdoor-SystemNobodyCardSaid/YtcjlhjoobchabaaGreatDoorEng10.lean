/- The engine, 10: an operation that looks at no memory: what it yields, in every world. -/
import Derived.Test.YtcjlhjoobchabaaGreatDoorEng9
namespace Go.Proofs.YtcjlhjoobchabaaGreatDoor
open Go.RowKit
set_option linter.unusedVariables false
set_option linter.unusedSimpArgs false
variable {η : Nat → Int} {L L' : LM}

noncomputable def aops (ts : T AV) (l : List Operand) : Option AV := List.rec (some .nil) (fun x _ ih => ob (aev ts x) fun v => ob ih fun r => some (.cons v r)) l
theorem aops_some {ts : T AV} {ρ : Operand → Value} (hE : Ev η L ts ρ) : ∀ {l : List Operand} {r : AV}, aops ts l = some r → DL η L r (l.map ρ)
  | [], r, h => by cases h; rfl
  | x :: l, r, h => by
    obtain ⟨v, hv, h⟩ := ob_some (h : ob (aev ts x) (fun v => ob (aops ts l) fun r => some (.cons v r)) = some r)
    obtain ⟨q, hq, h⟩ := ob_some h
    cases h
    exact DL_cons (hE x v hv) (aops_some hE hq)
noncomputable def aparts (ts : T AV) (l : List (Nat × Operand)) : Option (List (Nat × AV)) := List.rec (some []) (fun p _ ih => Prod.rec (fun i x => ob (aev ts x) fun v => ob ih fun r => some ((i, v) :: r)) p) l
theorem aparts_some {ts : T AV} {ρ : Operand → Value} (hE : Ev η L ts ρ) : ∀ {l : List (Nat × Operand)} {r : List (Nat × AV)}, aparts ts l = some r → PartsD η L r (l.map fun (i, x) => (i, ρ x))
  | [], r, h => by cases h; trivial
  | (i, x) :: l, r, h => by
    obtain ⟨v, hv, h⟩ := ob_some (h : ob (aev ts x) (fun v => ob (aparts ts l) fun r => some ((i, v) :: r)) = some r)
    obtain ⟨q, hq, h⟩ := ob_some h
    cases h
    exact ⟨rfl, hE x v hv, aparts_some hE hq⟩

noncomputable def signedA (k : IntKind) : Bool := match k with | .i8 | .i16 | .i32 | .i64 => true | _ => false
noncomputable def aun (op : UnOp) (u : AV) : Option AV := match op with
  | .not => (match u with | .bool b => some (.bool (bnot b)) | _ => none)
  | .neg => (match u with | .int k n => some (.int k (wr k (Int.sub (Int.ofNat (nat_lit 0)) n))) | _ => none)
  | .xor => (match u with | .int k n => bcase (signedA k) none (Int.rec (fun m => abits .xor k (Nat.sub (lim k) (nat_lit 1)) m) (fun _ => none) n) | _ => none)
  | _ => none
theorem aun_some {P : Program} {op : UnOp} {u r : AV} {U : Value} (h : aun op u = some r) (hu : D η L u U) : ∃ R, D η L r R ∧ ∀ w, (Op.unary op U).run P w = .ok R w := by
  cases op <;> simp only [aun] at h <;> try (cases h; done)
  · cases u with
    | int k n => cases h; cases hu; exact ⟨_, rfl, fun w => by simp only [Op.unary, Op.intArith, Sem.run_pure, wr_eq]; rfl⟩
    | _ => cases h
  · cases u with
    | int k n =>
      cases hu
      cases n with
      | negSucc m => cases hs : signedA k <;> simp only [hs] at h <;> cases h
      | ofNat m =>
        cases hs : signedA k
        · simp only [hs] at h
          obtain ⟨c, rfl, hc⟩ := abits_some (P := P) (show abits .xor k (lim k - 1) m = some r from h)
          refine ⟨_, rfl, fun w => ?_⟩
          have := hc w
          have e : (if k.signed then (-1 : Int) else k.max) = ((lim k - 1 : Nat) : Int) := by cases k <;> simp [signedA] at hs <;> simp [IntKind.signed, IntKind.max, IntKind.bits, lim]
          simp only [Op.unary, e]
          exact this
        · simp only [hs] at h; cases h
    | _ => cases h
  · cases u with
    | bool b => cases h; cases hu; exact ⟨_, rfl, fun w => by simp [Op.unary, Sem.run_pure, bnot_eq]⟩
    | _ => cases h

noncomputable def intK (d : Option TypeDesc) : Option IntKind := Option.rec none (fun d => match d with | .int k => some k | _ => none) d
theorem intK_some {d : Option TypeDesc} {k : IntKind} (h : intK d = some k) : d = some (.int k) := by
  cases d with
  | none => cases h
  | some d => cases d <;> first | (cases h; rfl) | cases h
noncomputable def isDStr (d : Option TypeDesc) : Bool := Option.rec false (fun d => match d with | .string => true | _ => false) d
theorem isDStr_true {d : Option TypeDesc} (h : isDStr d = true) : d = some .string := by
  cases d with
  | none => cases h
  | some d => cases d <;> first | rfl | cases h
noncomputable def isSomeA {α : Type} (x : Option α) : Bool := Option.rec false (fun _ => true) x
theorem isSomeA_true {α : Type} {x : Option α} (h : isSomeA x = true) : ∃ a, x = some a := by
  cases x with
  | none => cases h
  | some a => exact ⟨a, rfl⟩
noncomputable def aconv (C : Cfg) (s d : TypeId) (u : AV) : Option AV := tst (isSomeA (C.P.underlying s)) (match u with
  | .int k n => ob (intK (C.P.underlying d)) fun k' => some (.int k' (wr k' n))
  | .sym k v c => ob (intK (C.P.underlying d)) fun k' => srng C.F k v c fun _ _ => srng C.F k' v c fun _ _ => some (.sym k' v c)
  | .str b => tst (isDStr (C.P.underlying d)) (some (.str b))
  | _ => none)
theorem aconv_some {C : Cfg} (hC : C.Ok η) {s d : TypeId} {u r : AV} {U : Value} (h : aconv C s d u = some r) (hu : D η L u U) : ∃ R, D η L r R ∧ ∀ w, (convert s d U).run C.P w = .ok R w := by
  obtain ⟨h0, h⟩ := tst_some h
  obtain ⟨ds, hds⟩ := isSomeA_true h0
  cases u with
  | int k n =>
    obtain ⟨k', hk, h⟩ := ob_some h
    cases h; cases hu
    exact ⟨_, rfl, fun w => by simp [convert, run_underlying hds, run_underlying (intK_some hk), Conv.intToInt, Sem.run_pure, wr_eq]⟩
  | sym k v c =>
    obtain ⟨k', hk, h⟩ := ob_some h
    obtain ⟨_, _, _, _, _, _, h1, h⟩ := srng_some hC.facts h
    obtain ⟨_, _, _, _, _, _, h2, h⟩ := srng_some hC.facts h
    cases h; cases hu
    exact ⟨_, rfl, fun w => by simp [convert, run_underlying hds, run_underlying (intK_some hk), Conv.intToInt, Sem.run_pure, h1, h2]⟩
  | str b =>
    obtain ⟨h1, h⟩ := tst_some h
    cases h; cases hu
    have := isDStr_true h1
    refine ⟨_, rfl, fun w => ?_⟩
    cases ds <;> simp [convert, run_underlying hds, run_underlying this, Sem.run_pure]
  | _ => cases h

/-- x.(T), T no interface -/
noncomputable def aassert (P : Program) (t : TypeId) (ok : Bool) (u : AV) : Option AV := ob (P.underlying t) fun d => bcase (isDIface (some d)) none (match u with
  | .iface s v => bcase (Nat.beq s t) (some (bcase ok (.tuple (.cons v (.cons (.bool true) .nil))) v)) (tst ok (ob (azero P t) fun z => some (.tuple (.cons z (.cons (.bool false) .nil)))))
  | .niface => tst ok (ob (azero P t) fun z => some (.tuple (.cons z (.cons (.bool false) .nil))))
  | _ => none)
theorem run_zero {P : Program} {t : TypeId} {i : TypeInfo} {Z : Value} (hi : P.info? t = some i) (hZ : i.zero = some Z) (w : World) : (zeroValue t).run P w = .ok Z w := by
  simp [zeroValue, run_typeInfo w hi, hZ]
theorem aassert_some {P : Program} {t xT : TypeId} {ok : Bool} {u r : AV} {U : Value} (h : aassert P t ok u = some r) (hu : D η L u U) : ∃ R, D η L r R ∧ ∀ w, (Instr.typeAssert U xT t ok).run P w = .ok R w := by
  obtain ⟨d, hd, h⟩ := ob_some h
  have hni : ∀ m, d ≠ .interface m := by
    rintro m rfl; cases h
  have h' : bcase (isDIface (some d)) none (match u with
    | .iface s v => bcase (Nat.beq s t) (some (bcase ok (.tuple (.cons v (.cons (.bool true) .nil))) v)) (tst ok (ob (azero P t) fun z => some (.tuple (.cons z (.cons (.bool false) .nil)))))
    | .niface => tst ok (ob (azero P t) fun z => some (.tuple (.cons z (.cons (.bool false) .nil))))
    | _ => none) = some r := h
  have hf : isDIface (some d) = false := by cases d <;> first | rfl | exact absurd rfl (hni _)
  rw [hf, bcase_false] at h'
  cases u with
  | iface s v =>
    obtain ⟨x, hx, rfl⟩ := D_iface hu
    dsimp only at h'
    rw [bcase_beq] at h'
    by_cases e : s = t
    · subst e
      rw [if_pos rfl] at h'
      cases h'
      cases ok
      · exact ⟨x, hx, fun w => by cases d <;> first | exact absurd rfl (hni _) | simp [Instr.typeAssert, run_underlying hd, Sem.run_pure]⟩
      · exact ⟨.tuple #[x, .bool true], D_tuple (DL_cons hx (DL_cons rfl DL_nil)), fun w => by cases d <;> first | exact absurd rfl (hni _) | simp [Instr.typeAssert, run_underlying hd, Sem.run_pure]⟩
    · rw [if_neg e] at h'
      obtain ⟨rfl, h'⟩ := tst_some h'
      obtain ⟨z, hz, h'⟩ := ob_some h'
      cases h'
      obtain ⟨i, Z, hi, hZ, hD⟩ := azero_some (η := η) (L := L) hz
      exact ⟨.tuple #[Z, .bool false], D_tuple (DL_cons hD (DL_cons rfl DL_nil)), fun w => by cases d <;> first | exact absurd rfl (hni _) | simp [Instr.typeAssert, run_underlying hd, Sem.run_pure, e, run_zero hi hZ]⟩
  | niface =>
    cases hu
    obtain ⟨rfl, h'⟩ := tst_some h'
    obtain ⟨z, hz, h'⟩ := ob_some h'
    cases h'
    obtain ⟨i, Z, hi, hZ, hD⟩ := azero_some (η := η) (L := L) hz
    exact ⟨.tuple #[Z, .bool false], D_tuple (DL_cons hD (DL_cons rfl DL_nil)), fun w => by cases d <;> first | exact absurd rfl (hni _) | simp [Instr.typeAssert, run_underlying hd, Sem.run_pure, run_zero hi hZ]⟩
  | _ => cases h'

noncomputable def alen (P : Program) (t : TypeId) (u : AV) : Option AV := ob (P.underlying t) fun d => match d with
  | .slice _ => (match u with | .slice _ _ n _ => some (.int .i64 (Int.ofNat n)) | .vslice _ _ n _ _ => some (.int .i64 (Int.ofNat n)) | .eslice .. => some (.int .i64 (Int.ofNat (nat_lit 0))) | .nslice => some (.int .i64 (Int.ofNat (nat_lit 0))) | _ => none)
  | .string => (match u with | .str s => some (.int .i64 (Int.ofNat s.size)) | _ => none)
  | .array n _ => some (.int .i64 (Int.ofNat n))
  | .map _ _ => (match u with | .nmap => some (.int .i64 (Int.ofNat (nat_lit 0))) | _ => none)
  | _ => none
theorem alen_some {P : Program} {t ty : TypeId} {u r : AV} {U : Value} {ats : Array TypeId} {args : Array Value} (h : alen P t u = some r) (hu : D η L u U) (ha : ats[0]? = some t) (hx : args[0]? = some U) : ∃ R, D η L r R ∧ ∀ w, (Builtin.len_ ats ty args).run P w = .ok R w := by
  obtain ⟨d, hd, h⟩ := ob_some h
  cases d with
  | slice e =>
    cases u with
    | slice o off n c => cases h; obtain ⟨b, _, rfl⟩ := D_slice hu; exact ⟨_, rfl, fun w => by simp [Builtin.len_, ha, hx, run_underlying hd, Sem.run_pure, goInt]⟩
    | vslice o off n c k => cases h; obtain ⟨b, q, _, _, _, rfl⟩ := D_vslice hu; exact ⟨_, rfl, fun w => by simp [Builtin.len_, ha, hx, run_underlying hd, Sem.run_pure, goInt]⟩
    | eslice o ov cv k => cases h; obtain ⟨b, q, _, _, _, _, rfl⟩ := D_eslice hu; exact ⟨_, rfl, fun w => by simp [Builtin.len_, ha, hx, run_underlying hd, Sem.run_pure, goInt]⟩
    | nslice => cases h; cases hu; exact ⟨_, rfl, fun w => by simp [Builtin.len_, ha, hx, run_underlying hd, Sem.run_pure, goInt]⟩
    | _ => cases h
  | string =>
    cases u with
    | str s => cases h; cases hu; exact ⟨_, rfl, fun w => by simp [Builtin.len_, ha, hx, run_underlying hd, Sem.run_pure, goInt]⟩
    | _ => cases h
  | array n e => cases h; exact ⟨_, rfl, fun w => by simp [Builtin.len_, ha, hx, run_underlying hd, Sem.run_pure, goInt]⟩
  | map k e =>
    cases u with
    | nmap => cases h; cases hu; exact ⟨_, rfl, fun w => by simp [Builtin.len_, ha, hx, run_underlying hd, Sem.run_pure, goInt]⟩
    | _ => cases h
  | _ => cases h
noncomputable def aminmax (mx : Bool) (u v : AV) : Option AV := match u with
  | .int k a => (match v with | .int k' b => some (.int k (bcase mx (bcase (ilt a b) b a) (bcase (ilt b a) b a))) | _ => none)
  | _ => none
theorem aminmax_some {P : Program} {mx : Bool} {u v r : AV} {U V : Value} {ats : Array TypeId} {ty : TypeId} (h : aminmax mx u v = some r) (hu : D η L u U) (hv : D η L v V) :
    ∃ R, D η L r R ∧ ∀ w, (if mx then Builtin.max_ ats ty #[U, V] else Builtin.min_ ats ty #[U, V]).run P w = .ok R w := by
  cases u with
  | int k a =>
    cases v with
    | int k' b =>
      cases h; cases hu; cases hv
      refine ⟨_, rfl, fun w => ?_⟩
      cases mx
      · rw [if_neg (by simp), run_min_int2, bcase_false, ilt_eq]
        by_cases e : b < a <;> simp [e, bcase]
      · rw [if_pos rfl, run_max_int2, bcase_true, ilt_eq]
        by_cases e : a < b <;> simp [e, bcase]
    | _ => cases h
  | _ => cases h

noncomputable def optA (ts : T AV) (x : Option Operand) (k : Option AV → Option AV) : Option AV := Option.rec (k none) (fun x => ob (aev ts x) fun v => k (some v)) x
theorem optA_some {ts : T AV} {ρ : Operand → Value} (hE : Ev η L ts ρ) {x : Option Operand} {k : Option AV → Option AV} {r : AV} (h : optA ts x k = some r) : ∃ v, OptD η L v (x.map ρ) ∧ k v = some r := by
  cases x with
  | none => exact ⟨none, trivial, h⟩
  | some x => obtain ⟨v, hv, h⟩ := ob_some h; exact ⟨some v, hE x v hv, h⟩

noncomputable def apure (C : Cfg) (ts : T AV) (op : Op) : Option AV := match op with
  | .move x => aev ts x
  | .assign x => aev ts x
  | .pick c a b => ob (aev ts c) fun c => (match c with | .bool q => Bool.rec (aev ts b) (aev ts a) q | _ => none)
  | .nilCheck x => ob (aev ts x) fun v => (match v with | .ptr o off => some (.ptr o off) | .gptr g off => some (.gptr g off) | .func (.func f) a b => some (.func (.func f) a b) | _ => none)
  | .binOp op t x y _ => ob (aev ts x) fun u => ob (aev ts y) fun v => abin C op t y u v
  | .unOp op _ x => ob (aev ts x) fun u => aun op u
  | .convert s d x => ob (aev ts x) fun u => aconv C s d u
  | .makeFunc fn f c => ob (aops ts f.toList) fun a => ob (aops ts c.toList) fun b => some (.func fn a b)
  | .makeInterface t x => ob (C.P.underlying t) fun d => bcase (isDIface (some d)) none (ob (aev ts x) fun v => some (.iface t v))
  | .fieldAddr s x f => ob (aev ts x) fun u => afieldA C.P s u f
  | .field s x f => ob (aev ts x) fun u => afield C.P s u f
  | .indexAddr t x i => ob (aev ts x) fun u => ob (aev ts i) fun v => aindexA C.P t u v
  | .index t x i => ob (aev ts x) fun u => ob (aev ts i) fun v => aindex C.P t u v
  | .extract t i => ob (aev ts t) fun u => (match u with | .tuple l => nth l i | _ => none)
  | .typeAssert x _ t ok => ob (aev ts x) fun u => aassert C.P t ok u
  | .build t parts => ob (aparts ts parts.toList) fun ps => abuild C.P t ps
  | .slice t x lo hi mx => bcase (isSomeA mx) none (ob (aev ts x) fun u => optA ts lo fun l => optA ts hi fun h => aslice C.P t u l h)
  | .call c => (match c.callee with
    | .builtin b => (match b with
      | .len => ob (lget c.argTypes.toList (nat_lit 0)) fun t => ob (lget c.args.toList (nat_lit 0)) fun x => ob (aev ts x) fun u => alen C.P t u
      | .min => ob (aops ts c.args.toList) fun l => ob (nth l (nat_lit 0)) fun u => ob (nth l (nat_lit 1)) fun v => tst (isLen (nat_lit 2) l) (aminmax false u v)
      | .max => ob (aops ts c.args.toList) fun l => ob (nth l (nat_lit 0)) fun u => ob (nth l (nat_lit 1)) fun v => tst (isLen (nat_lit 2) l) (aminmax true u v)
      | _ => none)
    | _ => none)
  | _ => none

theorem run_val {P : Program} {s : Sem Value} {w : World} {R : Value} (h : s.run P w = .ok R w) : (do pure (Next.value (← s)) : Sem Next).run P w = .ok (.value R) w := by
  simp [h]
theorem apure_some {C : Cfg} (hC : C.Ok η) {ts : T AV} {ρ : Operand → Value} (hE : Ev η L ts ρ) {o : Oper} {r : AV} (h : apure C ts o.op = some r) : ∃ R, D η L r R ∧ ∀ w, (execOp ρ o).run C.P w = .ok (.value R) w := by
  obtain ⟨dst, op, ty, pos, after, guard⟩ := o
  dsimp only at h
  cases op with
  | move x => exact ⟨_, hE x r h, fun w => rfl⟩
  | assign x => exact ⟨_, hE x r h, fun w => rfl⟩
  | pick c a b =>
    obtain ⟨q, hq, h⟩ := ob_some h
    cases q with
    | bool q =>
      have hb : ρ c = .bool q := (hE c _ hq).inj rfl
      cases q
      · exact ⟨_, hE b r h, fun w => by simp [execOp, hb, asBool]⟩
      · exact ⟨_, hE a r h, fun w => by simp [execOp, hb, asBool]⟩
    | _ => cases h
  | nilCheck x =>
    obtain ⟨v, hv, h⟩ := ob_some h
    have hx := hE x v hv
    cases v with
    | ptr p off => cases h; obtain ⟨b, hb, e⟩ := D_ptr hx; exact ⟨_, hx, fun w => by simp [execOp, e, Sem.run_pure]⟩
    | gptr g off => cases h; exact ⟨_, hx, fun w => by have e := hx.inj (W := .pointer (some ⟨g, off, none⟩)) rfl; simp [execOp, e, Sem.run_pure]⟩
    | func fn a b =>
      cases fn with
      | func f => cases h; obtain ⟨y, z, _, _, e⟩ := D_func hx; exact ⟨_, hx, fun w => by simp [execOp, e, Sem.run_pure]⟩
      | _ => cases h
    | _ => cases h
  | binOp op t x y yt =>
    obtain ⟨u, hu, h⟩ := ob_some h
    obtain ⟨v, hv, h⟩ := ob_some h
    obtain ⟨R, hR, hr⟩ := abin_some hC (x := x) h (hE x u hu) (hE y v hv)
    exact ⟨R, hR, fun w => run_val (hr w)⟩
  | unOp op t x =>
    obtain ⟨u, hu, h⟩ := ob_some h
    obtain ⟨R, hR, hr⟩ := aun_some (P := C.P) h (hE x u hu)
    exact ⟨R, hR, fun w => run_val (hr w)⟩
  | convert s d x =>
    obtain ⟨u, hu, h⟩ := ob_some h
    obtain ⟨R, hR, hr⟩ := aconv_some hC h (hE x u hu)
    exact ⟨R, hR, fun w => run_val (hr w)⟩
  | makeFunc fn f c =>
    obtain ⟨a, ha, h⟩ := ob_some h
    obtain ⟨b, hb, h⟩ := ob_some h
    cases h
    have h1 := aops_some hE ha
    have h2 := aops_some hE hb
    refine ⟨.func fn (f.map ρ) (c.map ρ), ?_, fun w => rfl⟩
    show funcOf fn (den η L a) (den η L b) = _
    have e1 : (f.toList.map ρ).toArray = f.map ρ := Array.toList_inj.1 (by simp)
    have e2 : (c.toList.map ρ).toArray = c.map ρ := Array.toList_inj.1 (by simp)
    rw [h1, h2]
    simp only [funcOf, e1, e2]
  | makeInterface t x =>
    obtain ⟨d, hd, h⟩ := ob_some h
    cases hf : isDIface (some d)
    · rw [hf, bcase_false] at h
      obtain ⟨v, hv, h⟩ := ob_some h
      cases h
      refine ⟨.iface t (ρ x), ?_, fun w => ?_⟩
      · show ifaceOf t (den η L v) = _
        rw [hE x v hv]; rfl
      · exact run_val (by cases d <;> first | (cases hf; done) | simp [Instr.makeInterface, run_underlying hd, Sem.run_pure])
    · rw [hf] at h; cases h
  | fieldAddr s x f =>
    obtain ⟨u, hu, h⟩ := ob_some h
    obtain ⟨R, hR, hr⟩ := afieldA_some h (hE x u hu)
    exact ⟨R, hR, fun w => run_val (hr w)⟩
  | field s x f =>
    obtain ⟨u, hu, h⟩ := ob_some h
    obtain ⟨R, hR, hr⟩ := afield_some h (hE x u hu)
    exact ⟨R, hR, fun w => run_val (hr w)⟩
  | indexAddr t x i =>
    obtain ⟨u, hu, h⟩ := ob_some h
    obtain ⟨v, hv, h⟩ := ob_some h
    obtain ⟨R, hR, hr⟩ := aindexA_some h (hE x u hu) (hE i v hv)
    exact ⟨R, hR, fun w => run_val (hr w)⟩
  | index t x i =>
    obtain ⟨u, hu, h⟩ := ob_some h
    obtain ⟨v, hv, h⟩ := ob_some h
    obtain ⟨R, hR, hr⟩ := aindex_some h (hE x u hu) (hE i v hv)
    exact ⟨R, hR, fun w => run_val (hr w)⟩
  | extract t i =>
    obtain ⟨u, hu, h⟩ := ob_some h
    cases u with
    | tuple l =>
      obtain ⟨R, hR, hr⟩ := extract_some (P := C.P) h (hE t _ hu)
      exact ⟨R, hR, fun w => run_val (hr w)⟩
    | _ => cases h
  | typeAssert x xt t ok =>
    obtain ⟨u, hu, h⟩ := ob_some h
    obtain ⟨R, hR, hr⟩ := aassert_some (xT := xt) h (hE x u hu)
    exact ⟨R, hR, fun w => run_val (hr w)⟩
  | build t parts =>
    obtain ⟨ps, hps, h⟩ := ob_some h
    have hp := aparts_some hE hps
    obtain ⟨R, hR, hb⟩ := abuild_some h hp
    exact ⟨_, hR, fun w => run_val (run_build w t _ R (by simpa using hb))⟩
  | slice t x lo hi mx =>
    cases mx with
    | some m => cases h
    | none =>
      obtain ⟨u, hu, h⟩ := ob_some (h : ob (aev ts x) (fun u => optA ts lo fun l => optA ts hi fun h => aslice C.P t u l h) = some r)
      obtain ⟨l, hl, h⟩ := optA_some hE h
      obtain ⟨q, hq, h⟩ := optA_some hE h
      obtain ⟨R, hR, hr⟩ := aslice_some h (hE x u hu) hl hq
      exact ⟨R, hR, fun w => run_val (hr w)⟩
  | call c =>
    obtain ⟨callee, args, ats⟩ := c
    cases callee with
    | builtin b =>
      cases b with
      | len =>
        obtain ⟨t, ht, h⟩ := ob_some h
        obtain ⟨x, hx, h⟩ := ob_some h
        obtain ⟨u, hu, h⟩ := ob_some h
        rw [lget_eq] at ht hx
        obtain ⟨R, hR, hr⟩ := alen_some (ty := ty) (ats := ats) (args := args.map ρ) h (hE x u hu) (by simpa using ht) (by simp at hx; simp [hx])
        exact ⟨R, hR, fun w => by simp only [execOp, resolve, Sem.run_bind, Sem.run_pure, Result.andThen_ok, invoke, builtin]; rw [hr w]; rfl⟩
      | min =>
        obtain ⟨l, hl, h⟩ := ob_some h
        obtain ⟨u, hu, h⟩ := ob_some h
        obtain ⟨v, hv, h⟩ := ob_some h
        obtain ⟨h2, h⟩ := tst_some h
        have hD := aops_some hE hl
        have h2 := isLen_true h2 hD
        obtain ⟨U, hU, e1⟩ := nth_some hu hD
        obtain ⟨V, hV, e2⟩ := nth_some hv hD
        have ea : args.map ρ = #[U, V] := by
          apply Array.toList_inj.1
          rw [Array.toList_map]
          generalize args.toList.map ρ = q at *
          match q, h2, e1, e2 with
          | [a, b], _, e1, e2 => simp at e1 e2; simp [e1, e2]
        obtain ⟨R, hR, hr⟩ := aminmax_some (P := C.P) (ats := ats) (ty := ty) h hU hV
        exact ⟨R, hR, fun w => by simp only [execOp, resolve, Sem.run_bind, Sem.run_pure, Result.andThen_ok, invoke, builtin, ea]; have e := hr w; simp at e; rw [e]; rfl⟩
      | max =>
        obtain ⟨l, hl, h⟩ := ob_some h
        obtain ⟨u, hu, h⟩ := ob_some h
        obtain ⟨v, hv, h⟩ := ob_some h
        obtain ⟨h2, h⟩ := tst_some h
        have hD := aops_some hE hl
        have h2 := isLen_true h2 hD
        obtain ⟨U, hU, e1⟩ := nth_some hu hD
        obtain ⟨V, hV, e2⟩ := nth_some hv hD
        have ea : args.map ρ = #[U, V] := by
          apply Array.toList_inj.1
          rw [Array.toList_map]
          generalize args.toList.map ρ = q at *
          match q, h2, e1, e2 with
          | [a, b], _, e1, e2 => simp at e1 e2; simp [e1, e2]
        obtain ⟨R, hR, hr⟩ := aminmax_some (P := C.P) (ats := ats) (ty := ty) h hU hV
        exact ⟨R, hR, fun w => by simp only [execOp, resolve, Sem.run_bind, Sem.run_pure, Result.andThen_ok, invoke, builtin, ea]; have e := hr w; simp at e; rw [e]; rfl⟩
      | _ => cases h
    | _ => cases h
  | _ => cases h
end Go.Proofs.YtcjlhjoobchabaaGreatDoor
