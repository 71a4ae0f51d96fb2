/- The engine, 6: operations that look at no memory. -/
import Derived.Test.YtcjlhjoobchabaaGreatDoorEng5
import Derived.Laws.StructEq
namespace Go.Proofs.YtcjlhjoobchabaaGreatDoor
open Go.RowKit
set_option linter.unusedVariables false
set_option linter.unusedSimpArgs false
variable {η : Nat → Int} {L L' : LM}

/-- What the engine is told: the program; what is known of the numbers; struct types that may be compared. -/
structure Cfg where
  P : Program
  F : Facts
  eqs : List TypeId
structure Cfg.Ok (C : Cfg) (η : Nat → Int) : Prop where
  facts : C.F.Hold η
  eqs : ∀ t ∈ C.eqs, C.P.stoodInHeld t = false ∧ C.P.eqGuardType C.P.depth t = false ∧ ∀ fs, C.P.underlying t = some (.struct fs) → ∀ f ∈ fs.toList, f.name ≠ "_"

noncomputable def memN (n : Nat) (l : List Nat) : Bool := List.rec false (fun m _ ih => bcase (Nat.beq m n) true ih) l
theorem memN_true {n : Nat} : ∀ {l : List Nat}, memN n l = true → n ∈ l
  | [], h => by cases h
  | m :: l, h => by
    have h' : bcase (Nat.beq m n) true (memN n l) = true := h
    cases h1 : Nat.beq m n
    · rw [h1] at h'; exact List.mem_cons_of_mem _ (memN_true h')
    · have := Nat.eq_of_beq_eq_true h1; subst this; exact List.mem_cons_self

/-! ### Comparing -/
noncomputable def u8eq (a b : UInt8) : Bool := Nat.beq a.toNat b.toNat
noncomputable def lsEq (a : List UInt8) : List UInt8 → Bool := List.rec (fun b => List.rec true (fun _ _ _ => false) b) (fun x _ ih b => List.rec false (fun y t _ => bcase (u8eq x y) (ih t) false) b) a
theorem lsEq_eq : ∀ (a b : List UInt8), lsEq a b = (a == b)
  | [], [] => rfl
  | [], y :: t => rfl
  | x :: s, [] => rfl
  | x :: s, y :: t => by
    show bcase (u8eq x y) (lsEq s t) false = _
    rw [lsEq_eq s t, List.cons_beq_cons]
    have : u8eq x y = (x == y) := by
      unfold u8eq
      rw [T.beq_eq]
      by_cases h : x = y
      · subst h; simp
      · have : ¬ x.toNat = y.toNat := fun e => h (UInt8.toNat_inj.1 e)
        simp [h, this]
    rw [this]
    cases (x == y) <;> simp [bcase]
noncomputable def strEq (a b : ByteArray) : Bool := lsEq a.data.toList b.data.toList
theorem strEq_eq (a b : ByteArray) : strEq a b = (a.toList == b.toList) := by
  unfold strEq; rw [lsEq_eq, ByteArray.toList_eq, ByteArray.toList_eq]
noncomputable def beqA (a b : Bool) : Bool := Bool.rec (bnot b) b a
theorem beqA_eq (a b : Bool) : beqA a b = (a == b) := by cases a <;> cases b <;> rfl
noncomputable def eqOp (op : BinOp) (b : Bool) : Option AV := match op with | .eql => some (.bool b) | .neq => some (.bool (bnot b)) | _ => none
noncomputable def strCat (a b : ByteArray) : ByteArray := ⟨⟨a.data.toList ++ b.data.toList⟩⟩
theorem strCat_eq (a b : ByteArray) : strCat a b = a ++ b := by
  obtain ⟨⟨x⟩⟩ := a
  obtain ⟨⟨y⟩⟩ := b
  exact (ByteArray.mk_append_mk x y).symm
noncomputable def strOp (op : BinOp) (a b : ByteArray) : Option AV := match op with
  | .eql => some (.bool (strEq a b))
  | .neq => some (.bool (bnot (strEq a b)))
  | .add => tst (Nat.blt (Nat.add a.size b.size) (nat_lit 9223372036854775808)) (some (.str (strCat a b)))
  | _ => none
theorem strOp_some {P : Program} {op : BinOp} {a b : ByteArray} {r : AV} (h : strOp op a b = some r) : ∃ V, D η L r V ∧ ∀ w, (Op.stringOp op a b).run P w = .ok V w := by
  cases op <;> simp only [strOp] at h <;> try (cases h; done)
  · obtain ⟨h1, h⟩ := tst_some h
    cases h
    have h2 := blt_true h1
    refine ⟨_, rfl, fun w => ?_⟩
    rw [run_string_add_if, if_neg (by have : Nat.add a.size b.size = a.size + b.size := rfl; omega), strCat_eq]
  · cases h; exact ⟨_, rfl, fun w => by simp [Op.stringOp, Sem.run_pure, strEq_eq]⟩
  · cases h; exact ⟨_, rfl, fun w => by simp [Op.stringOp, Sem.run_pure, strEq_eq, bnot_eq]⟩

noncomputable def isDBool (d : Option TypeDesc) : Bool := Option.rec false (fun d => match d with | .bool => true | _ => false) d
noncomputable def isDPtr (d : Option TypeDesc) : Bool := Option.rec false (fun d => match d with | .pointer _ => true | _ => false) d
noncomputable def isDSlice (d : Option TypeDesc) : Bool := Option.rec false (fun d => match d with | .slice _ => true | _ => false) d
noncomputable def isDMap (d : Option TypeDesc) : Bool := Option.rec false (fun d => match d with | .map _ _ => true | _ => false) d
noncomputable def isDFunc (d : Option TypeDesc) : Bool := Option.rec false (fun d => match d with | .func _ _ _ => true | _ => false) d
noncomputable def isDIface (d : Option TypeDesc) : Bool := Option.rec false (fun d => match d with | .interface _ => true | _ => false) d
theorem isDBool_true {d : Option TypeDesc} (h : isDBool d = true) : d = some .bool := by
  cases d with
  | none => cases h
  | some d => cases d <;> first | rfl | cases h
theorem isDPtr_true {d : Option TypeDesc} (h : isDPtr d = true) : ∃ e, d = some (.pointer e) := by
  cases d with
  | none => cases h
  | some d => cases d <;> first | exact ⟨_, rfl⟩ | cases h
theorem isDSlice_true {d : Option TypeDesc} (h : isDSlice d = true) : ∃ e, d = some (.slice e) := by
  cases d with
  | none => cases h
  | some d => cases d <;> first | exact ⟨_, rfl⟩ | cases h
theorem isDMap_true {d : Option TypeDesc} (h : isDMap d = true) : ∃ k e, d = some (.map k e) := by
  cases d with
  | none => cases h
  | some d => cases d <;> first | exact ⟨_, _, rfl⟩ | cases h
theorem isDFunc_true {d : Option TypeDesc} (h : isDFunc d = true) : ∃ p r v, d = some (.func p r v) := by
  cases d with
  | none => cases h
  | some d => cases d <;> first | exact ⟨_, _, _, rfl⟩ | cases h
theorem isDIface_true {d : Option TypeDesc} (h : isDIface d = true) : ∃ m, d = some (.interface m) := by
  cases d with
  | none => cases h
  | some d => cases d <;> first | exact ⟨_, rfl⟩ | cases h

/-- Against nil. -/
noncomputable def nilCmp (P : Program) (op : BinOp) (t : TypeId) (u v : AV) : Option AV := match v with
  | .nptr => tst (isDPtr (P.underlying t)) (match u with | .nptr => eqOp op true | .ptr .. | .gptr .. => eqOp op false | _ => none)
  | .nslice => tst (isDSlice (P.underlying t)) (match u with | .nslice => eqOp op true | .slice .. | .vslice .. | .eslice .. => eqOp op false | _ => none)
  | .nmap => tst (isDMap (P.underlying t)) (match u with | .nmap => eqOp op true | .map .. => eqOp op false | _ => none)
  | .nfunc => tst (isDFunc (P.underlying t)) (match u with | .nfunc => eqOp op true | .func .. => eqOp op false | _ => none)
  | .niface => tst (isDIface (P.underlying t)) (match u with | .iface .. => eqOp op false | _ => none)
  | _ => none
theorem eqOp_some {op : BinOp} {b : Bool} {r : AV} (h : eqOp op b = some r) : (op = .eql ∧ r = .bool b) ∨ (op = .neq ∧ r = .bool (!b)) := by
  cases op <;> simp only [eqOp, bnot_eq] at h <;> cases h
  · exact .inl ⟨rfl, rfl⟩
  · exact .inr ⟨rfl, rfl⟩
theorem of_equal {P : Program} {op : BinOp} {t : TypeId} {U V : Value} {b : Bool} {r : AV} (h : eqOp op b = some r)
    (hb : ∀ w, (binOp .eql t U V).run P w = .ok (.bool b) w) (hn : ∀ w, (binOp .neq t U V).run P w = .ok (.bool (!b)) w) : ∃ R, D η L r R ∧ ∀ w, (binOp op t U V).run P w = .ok R w := by
  rcases eqOp_some h with ⟨rfl, rfl⟩ | ⟨rfl, rfl⟩
  · exact ⟨_, rfl, hb⟩
  · exact ⟨_, rfl, hn⟩
theorem D_slice {o off len cap : Nat} {V : Value} (h : D η L (.slice o off len cap) V) : ∃ b, L[o]? = some b ∧ V = .slice (some ⟨b, off, none⟩) len cap := by
  obtain ⟨b, k, hb, hk, e⟩ := sliceOf_some (h : sliceOf L[o]? off len (some cap) = _)
  cases hk; cases e; exact ⟨b, hb, rfl⟩
theorem D_vslice {o off len cv k : Nat} {V : Value} (h : D η L (.vslice o off len cv k) V) : ∃ b c, L[o]? = some b ∧ L[cv]? = some c ∧ len ≤ c - k ∧ V = .slice (some ⟨b, off, none⟩) len (c - k) := by
  obtain ⟨b, q, hb, hk, hle, e⟩ := vsliceOf_some (h : vsliceOf L[o]? off len k L[cv]? = _)
  cases e; exact ⟨b, q, hb, hk, hle, rfl⟩
theorem D_eslice {o ov cv k : Nat} {V : Value} (h : D η L (.eslice o ov cv k) V) : ∃ b off c, L[o]? = some b ∧ L[ov]? = some off ∧ L[cv]? = some c ∧ V = .slice (some ⟨b, off, none⟩) 0 (c - k) := by
  obtain ⟨b, off, q, hb, ho, hk, e⟩ := esliceOf_some (h : esliceOf L[o]? L[ov]? (L[cv]?.map (· - k)) = _)
  obtain ⟨c, hc, rfl⟩ := Option.map_eq_some_iff.1 hk
  cases e; exact ⟨b, off, c, hb, ho, hc, rfl⟩
theorem D_ptr {o off : Nat} {V : Value} (h : D η L (.ptr o off) V) : ∃ b, L[o]? = some b ∧ V = .pointer (some ⟨b, off, none⟩) := by
  obtain ⟨b, hb, e⟩ := ptrOf_some (h : ptrOf L[o]? off = _)
  cases e; exact ⟨b, hb, rfl⟩
theorem D_map {o : Nat} {V : Value} (h : D η L (.map o) V) : ∃ b, L[o]? = some b ∧ V = .map (some b) := by
  have h' : L[o]?.map (fun b => [Value.map (some b)]) = some [V] := h
  cases hb : L[o]? with
  | none => simp [hb] at h'
  | some b => simp [hb] at h'; exact ⟨b, rfl, h'.symm⟩
theorem D_yieldf {o : Nat} {V : Value} (h : D η L (.yieldf o) V) : ∃ b, L[o]? = some b ∧ V = .func (.yield b) #[] #[] := by
  have h' : (L[o]?.map fun b => [Value.func (.yield b) #[] #[]]) = some [V] := h
  cases hb : L[o]? with
  | none => simp [hb] at h'
  | some b => simp [hb] at h'; exact ⟨b, rfl, h'.symm⟩
theorem D_func {fn : Fn} {f c : AV} {V : Value} (h : D η L (.func fn f c) V) : ∃ x y, DL η L f x ∧ DL η L c y ∧ V = .func fn x.toArray y.toArray := by
  obtain ⟨x, y, hx, hy, e⟩ := funcOf_some (h : funcOf fn (den η L f) (den η L c) = _)
  cases e; exact ⟨x, y, hx, hy, rfl⟩
theorem D_iface {t : TypeId} {v : AV} {V : Value} (h : D η L (.iface t v) V) : ∃ x, D η L v x ∧ V = .iface t x := by
  obtain ⟨x, hx, e⟩ := ifaceOf_some (h : ifaceOf t (den η L v) = _)
  cases e; exact ⟨x, hx, rfl⟩
theorem run_equalIn_nfunc {P : Program} {d : Nat} {t : TypeId} {p q : Array TypeId} {s : Bool} (h : P.underlying t = some (.func p q s)) (w : World) : (Op.equalIn (d + 1) t .nilFunc .nilFunc).run P w = .ok true w := by simp [Op.equalIn, run_underlying h]
theorem run_equal_nfunc {P : Program} {t : TypeId} {p q : Array TypeId} {s : Bool} (h : P.underlying t = some (.func p q s)) (w : World) : (Op.equal t .nilFunc .nilFunc).run P w = .ok true w := run_equalIn_nfunc (d := 9999) h w
theorem run_equalIn_func {P : Program} {d : Nat} {t : TypeId} {p q : Array TypeId} {s : Bool} (h : P.underlying t = some (.func p q s)) (w : World) {fn : Fn} {x y : Array Value} : (Op.equalIn (d + 1) t (.func fn x y) .nilFunc).run P w = .ok false w := by simp [Op.equalIn, run_underlying h]
theorem run_equal_func {P : Program} {t : TypeId} {p q : Array TypeId} {s : Bool} (h : P.underlying t = some (.func p q s)) (w : World) {fn : Fn} {x y : Array Value} : (Op.equal t (.func fn x y) .nilFunc).run P w = .ok false w := run_equalIn_func (d := 9999) h w
theorem run_equalIn_iface {P : Program} {d : Nat} {t u : TypeId} {m : Array (String × TypeId)} (h : P.underlying t = some (.interface m)) (w : World) {x : Value} : (Op.equalIn (d + 1) t (.iface u x) .nilIface).run P w = .ok false w := by simp [Op.equalIn, run_underlying h]
theorem run_equal_iface {P : Program} {t u : TypeId} {m : Array (String × TypeId)} (h : P.underlying t = some (.interface m)) (w : World) {x : Value} : (Op.equal t (.iface u x) .nilIface).run P w = .ok false w := run_equalIn_iface (d := 9999) h w
theorem nilCmp_some {P : Program} {op : BinOp} {t : TypeId} {u v r : AV} {U V : Value} (h : nilCmp P op t u v = some r) (hu : D η L u U) (hv : D η L v V) :
    ∃ R, D η L r R ∧ ∀ w, (binOp op t U V).run P w = .ok R w := by
  cases v <;> simp only [nilCmp] at h <;> try (cases h; done)
  · obtain ⟨h1, h⟩ := tst_some h
    obtain ⟨e, he⟩ := isDPtr_true h1
    have hp : P.underlying t = some (.pointer (P.pointee t)) := by rw [he]; simp [Program.pointee, he]
    cases hv
    cases u <;> simp only at h <;> try (cases h; done)
    · cases hu; exact of_equal h (fun w => run_eql_pointer_nil w t none hp) (fun w => run_neq_pointer_nil w t none hp)
    · obtain ⟨b, _, rfl⟩ := D_ptr hu; exact of_equal h (fun w => run_eql_pointer_nil w t _ hp) (fun w => run_neq_pointer_nil w t _ hp)
    · cases hu; exact of_equal h (fun w => run_eql_pointer_nil w t _ hp) (fun w => run_neq_pointer_nil w t _ hp)
  · obtain ⟨h1, h⟩ := tst_some h
    obtain ⟨e, he⟩ := isDSlice_true h1
    cases hv
    have key : ∀ (a : Option Addr) (l c : Nat), (∀ w, (binOp .eql t (.slice a l c) (.slice none 0 0)).run P w = .ok (.bool a.isNone) w) ∧ (∀ w, (binOp .neq t (.slice a l c) (.slice none 0 0)).run P w = .ok (.bool (!a.isNone)) w) := by
      intro a l c
      constructor <;> intro w <;> simp only [binOp] <;> simp [run_equal_slice_nil w t e a l c he]
    cases u <;> simp only at h <;> try (cases h; done)
    · cases hu; exact of_equal h (key none 0 0).1 (key none 0 0).2
    · obtain ⟨b, _, rfl⟩ := D_slice hu; exact of_equal h (key _ _ _).1 (key _ _ _).2
    · obtain ⟨b, c, _, _, _, rfl⟩ := D_vslice hu; exact of_equal h (key _ _ _).1 (key _ _ _).2
    · obtain ⟨b, o, c, _, _, _, rfl⟩ := D_eslice hu; exact of_equal h (key _ _ _).1 (key _ _ _).2
  · obtain ⟨h1, h⟩ := tst_some h
    obtain ⟨k, e, he⟩ := isDMap_true h1
    cases hv
    have key : ∀ (a : Option Nat), (∀ w, (binOp .eql t (.map a) (.map none)).run P w = .ok (.bool a.isNone) w) ∧ (∀ w, (binOp .neq t (.map a) (.map none)).run P w = .ok (.bool (!a.isNone)) w) := by
      intro a
      constructor <;> intro w <;> simp only [binOp] <;> simp [run_equal_map_nil w t k e a he]
    cases u <;> simp only at h <;> try (cases h; done)
    · cases hu; exact of_equal h (key none).1 (key none).2
    · obtain ⟨b, _, rfl⟩ := D_map hu; exact of_equal h (key _).1 (key _).2
  · obtain ⟨h1, h⟩ := tst_some h
    obtain ⟨p, q, s, he⟩ := isDFunc_true h1
    cases hv
    cases u <;> simp only at h <;> try (cases h; done)
    · cases hu; exact of_equal h (fun w => by simp only [binOp]; simp [run_equal_nfunc he w]) (fun w => by simp only [binOp]; simp [run_equal_nfunc he w])
    · obtain ⟨x, y, _, _, rfl⟩ := D_func hu; exact of_equal h (fun w => by simp only [binOp]; simp [run_equal_func he w]) (fun w => by simp only [binOp]; simp [run_equal_func he w])
  · obtain ⟨h1, h⟩ := tst_some h
    obtain ⟨m, he⟩ := isDIface_true h1
    cases hv
    cases u <;> simp only at h <;> try (cases h; done)
    · obtain ⟨x, _, rfl⟩ := D_iface hu; exact of_equal h (fun w => by simp only [binOp]; simp [run_equal_iface he w]) (fun w => by simp only [binOp]; simp [run_equal_iface he w])

/-- Two values that are no structs. -/
noncomputable def abin0 (C : Cfg) (op : BinOp) (t : TypeId) (u v : AV) : Option AV := match u with
  | .int k a => (match v with | .int k' b => aint op k a k' b | .sym k' x c => intSym C.F op k a k' x c | _ => none)
  | .sym k x c => (match v with | .int k' b => symInt C.F op k x c k' b | .sym k' y d => symSym C.F op k x c k' y d | _ => none)
  | .bool a => (match v with | .bool b => tst (isDBool (C.P.underlying t)) (eqOp op (beqA a b)) | _ => none)
  | .str a => (match v with | .str b => strOp op a b | _ => none)
  | u => nilCmp C.P op t u v
theorem abin0_some {C : Cfg} (hC : C.Ok η) {op : BinOp} {t : TypeId} {u v r : AV} {U V : Value} (h : abin0 C op t u v = some r) (hu : D η L u U) (hv : D η L v V) :
    ∃ R, D η L r R ∧ ∀ w, (binOp op t U V).run C.P w = .ok R w := by
  cases u <;> simp only [abin0] at h
  case int k a =>
    cases hu
    cases v <;> simp only at h <;> try (cases h; done)
    · cases hv; exact aint_some h
    · cases hv; exact intSym_some hC.facts h
  case sym k x c =>
    cases hu
    cases v <;> simp only at h <;> try (cases h; done)
    · cases hv; exact symInt_some hC.facts h
    · cases hv; exact symSym_some hC.facts h
  case bool a =>
    cases hu
    cases v <;> simp only at h <;> try (cases h; done)
    cases hv
    obtain ⟨h1, h⟩ := tst_some h
    rw [beqA_eq] at h
    exact of_equal h (fun w => run_eql_bool w t _ _ (isDBool_true h1)) (fun w => run_neq_bool w t _ _ (isDBool_true h1))
  case str a =>
    cases hu
    cases v <;> simp only at h <;> try (cases h; done)
    cases hv
    obtain ⟨R, hR, hr⟩ := strOp_some (P := C.P) h
    exact ⟨R, hR, fun w => by have := hr w; cases op <;> simpa [binOp] using this⟩
  all_goals exact nilCmp_some h hu hv
end Go.Proofs.YtcjlhjoobchabaaGreatDoor
