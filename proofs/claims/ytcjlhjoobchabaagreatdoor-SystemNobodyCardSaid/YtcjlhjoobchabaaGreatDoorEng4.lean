/- The engine, 4: operands, and the operations that look at no memory. -/
import Derived.Test.YtcjlhjoobchabaaGreatDoorEng3
namespace Go.Proofs.YtcjlhjoobchabaaGreatDoor
open Go.RowKit
set_option linter.unusedVariables false
variable {η : Nat → Int} {L L' : LM} {P : Program}

/-- A mark: the deferred calls of a loop over an iterator, none of them. -/
def mark (D : Nat) : Deferred := { target := .collected D, args := #[] }
/-- The marks that a frame bears: the objects, listed. -/
def Defs (L : LM) : AV → List Deferred → Prop
  | .cons (.ptr o _) l, ds => ∃ b ds', L[o]? = some b ∧ ds = mark b :: ds' ∧ Defs L l ds'
  | _, ds => ds = []
theorem Defs.mono (hL : LM.Le L L') : ∀ {v : AV} {ds : List Deferred}, Defs L v ds → Defs L' v ds
  | .cons (.ptr o _) l, ds, ⟨b, ds', h1, h2, h3⟩ => ⟨b, ds', get_prefix hL h1, h2, h3.mono hL⟩
  | .cons .nil _, ds, h => h | .cons (.cons ..) _, ds, h => h | .cons (.bool ..) _, ds, h => h | .cons (.int ..) _, ds, h => h | .cons (.sym ..) _, ds, h => h
  | .cons (.sbyte ..) _, ds, h => h | .cons (.str ..) _, ds, h => h | .cons .nptr _, ds, h => h | .cons (.gptr ..) _, ds, h => h | .cons .nslice _, ds, h => h
  | .cons (.slice ..) _, ds, h => h | .cons (.vslice ..) _, ds, h => h | .cons (.eslice ..) _, ds, h => h | .cons .nmap _, ds, h => h | .cons (.map ..) _, ds, h => h
  | .cons .nfunc _, ds, h => h | .cons (.func ..) _, ds, h => h | .cons (.yieldf ..) _, ds, h => h | .cons .niface _, ds, h => h | .cons (.iface ..) _, ds, h => h
  | .cons (.agg ..) _, ds, h => h | .cons (.tuple ..) _, ds, h => h
  | .nil, ds, h => h | .bool .., ds, h => h | .int .., ds, h => h | .sym .., ds, h => h
  | .sbyte .., ds, h => h | .str .., ds, h => h | .nptr, ds, h => h | .ptr .., ds, h => h | .gptr .., ds, h => h | .nslice, ds, h => h
  | .slice .., ds, h => h | .vslice .., ds, h => h | .eslice .., ds, h => h | .nmap, ds, h => h | .map .., ds, h => h
  | .nfunc, ds, h => h | .func .., ds, h => h | .yieldf .., ds, h => h | .niface, ds, h => h | .iface .., ds, h => h
  | .agg .., ds, h => h | .tuple .., ds, h => h
/-- The slot that holds a frame's marks. -/
noncomputable def BIG : Nat := nat_lit 4096
/-- The frame's slots: n of them. -/
structure RelA (η : Nat → Int) (L : LM) (n : Nat) (ts : T AV) (a : Act) : Prop where
  size : a.tmps.size = n
  small : n ≤ BIG
  val : ∀ t, t ≠ BIG → D η L (oget (ts.get t) undefA) (a.tmps.getD t undef)
  defers : Defs L (oget (ts.get BIG) undefA) a.defers
theorem RelA.mono {n : Nat} {ts : T AV} {a : Act} (h : RelA η L n ts a) (hL : LM.Le L L') : RelA η L' n ts a := ⟨h.size, h.small, fun t ht => (h.val t ht).mono hL, h.defers.mono hL⟩
theorem RelA.put {n : Nat} {ts : T AV} {a : Act} {v : AV} {V : Value} {d : Nat} (h : RelA η L n ts a) (hv : D η L v V) (hd : d < n) : RelA η L n (T.set (some v) ts d) (a.put (some d) V) := by
  refine ⟨by simp [Act.put, h.size], h.small, fun t ht => ?_, by rw [T.get_set, if_neg (by have := h.small; omega)]; exact h.defers⟩
  rw [T.get_set]
  by_cases e : t = d
  · subst e; rw [if_pos rfl]
    have : t < a.tmps.size := by rw [h.size]; exact hd
    show D η L v _
    simpa [Act.put, this] using hv
  · rw [if_neg e]
    have := h.val t ht
    simpa [Act.put, Array.getElem?_setIfInBounds_ne (Ne.symm e)] using this

noncomputable def aev (ts : T AV) (x : Operand) : Option AV :=
  match x with
  | .tmp t => tst (Nat.blt t BIG) (some (oget (ts.get t) undefA))
  | .const v => ofV v
  | .global g => some (.gptr g (nat_lit 0))
  | .func f => some (.func (.func f) .nil .nil)
def Ev (η : Nat → Int) (L : LM) (ts : T AV) (ρ : Operand → Value) : Prop := ∀ x v, aev ts x = some v → D η L v (ρ x)
theorem RelA.ev {n : Nat} {ts : T AV} {a : Act} (h : RelA η L n ts a) : Ev η L ts a.eval := by
  intro x v hx
  cases x with
  | tmp t =>
    obtain ⟨hlt, hx⟩ := tst_some (hx : tst (Nat.blt t BIG) (some (oget (ts.get t) undefA)) = some v)
    cases hx; exact h.val t (by have := Nat.le_of_ble_eq_true hlt; omega)
  | const c => exact ofV_den hx
  | global g => cases hx; rfl
  | func f => cases hx; rfl
theorem Ev.mono {ts : T AV} {ρ : Operand → Value} (h : Ev η L ts ρ) (hL : LM.Le L L') : Ev η L' ts ρ := fun x v hx => (h x v hx).mono hL

/-! ### Numbers -/
noncomputable def bitsN (k : IntKind) : Nat := match k with | .i8 | .u8 => nat_lit 8 | .i16 | .u16 => nat_lit 16 | .i32 | .u32 => nat_lit 32 | .i64 | .u64 => nat_lit 64
noncomputable def lim (k : IntKind) : Nat := match k with
  | .i8 => nat_lit 128 | .u8 => nat_lit 256 | .i16 => nat_lit 32768 | .u16 => nat_lit 65536 | .i32 => nat_lit 2147483648 | .u32 => nat_lit 4294967296
  | .i64 => nat_lit 9223372036854775808 | .u64 => nat_lit 18446744073709551616
noncomputable def wr (k : IntKind) (n : Int) : Int := Int.rec (fun m => bcase (Nat.blt m (lim k)) (Int.ofNat m) (k.wrap (Int.ofNat m))) (fun m => k.wrap (Int.negSucc m)) n
theorem wrap_lim (k : IntKind) (m : Nat) (h : m < lim k) : k.wrap (m : Int) = m := by
  cases k <;> simp [lim] at h <;> simp [IntKind.wrap, IntKind.bits, IntKind.signed] <;> omega
theorem blt_true {a b : Nat} (h : Nat.blt a b = true) : a < b := by
  have := Nat.le_of_ble_eq_true h; omega
theorem wr_eq (k : IntKind) (n : Int) : wr k n = k.wrap n := by
  cases n with
  | ofNat m =>
    show bcase (Nat.blt m (lim k)) (Int.ofNat m) (k.wrap (Int.ofNat m)) = _
    cases hb : Nat.blt m (lim k) with
    | false => rfl
    | true => exact (wrap_lim k m (blt_true hb)).symm
  | negSucc m => rfl
noncomputable def ieq (a b : Int) : Bool := Int.rec (fun m => Int.rec (fun n => Nat.beq m n) (fun _ => false) b) (fun m => Int.rec (fun _ => false) (fun n => Nat.beq m n) b) a
noncomputable def ilt (a b : Int) : Bool := Int.rec (fun m => Int.rec (fun n => Nat.blt m n) (fun _ => false) b) (fun m => Int.rec (fun _ => true) (fun n => Nat.blt n m) b) a
theorem ieq_eq (a b : Int) : ieq a b = (a == b) := by
  cases a <;> cases b <;> simp only [ieq]
  · rename_i m n; rw [T.beq_eq]; by_cases h : m = n
    · subst h; simp
    · have : ¬ ((m : Int) = (n : Int)) := by omega
      simp [h, this]
  · rename_i m n; symm; simp
  · rename_i m n; symm; simp
  · rename_i m n; rw [T.beq_eq]; by_cases h : m = n
    · subst h; simp
    · have : ¬ (Int.negSucc m = Int.negSucc n) := by omega
      simp [h]
theorem blt_eq (a b : Nat) : Nat.blt a b = decide (a < b) := by
  cases h : Nat.blt a b
  · have : ¬ a < b := fun hlt => by
      have := Nat.ble_eq_true_of_le (show a + 1 ≤ b from hlt)
      rw [show Nat.ble (a + 1) b = Nat.blt a b from rfl, h] at this; cases this
    simp [this]
  · simp [blt_true h]
theorem ilt_eq (a b : Int) : ilt a b = decide (a < b) := by
  cases a <;> cases b <;> simp only [ilt]
  · rename_i m n; rw [blt_eq]; congr 1; simp only [Int.ofNat_eq_natCast, eq_iff_iff]; omega
  · rename_i m n; symm; rw [decide_eq_false_iff_not]; simp only [Int.ofNat_eq_natCast]; omega
  · rename_i m n; symm; rw [decide_eq_true_iff]; simp only [Int.ofNat_eq_natCast]; omega
  · rename_i m n; rw [blt_eq]; congr 1; simp only [eq_iff_iff]; omega
noncomputable def bnot (b : Bool) : Bool := Bool.rec true false b
theorem bnot_eq (b : Bool) : bnot b = !b := by cases b <;> rfl

/-- A comparison of two numbers. -/
noncomputable def acmp (op : BinOp) (a b : Int) : Option AV :=
  match op with
  | .eql => some (.bool (ieq a b))
  | .neq => some (.bool (bnot (ieq a b)))
  | .lss => some (.bool (ilt a b))
  | .leq => some (.bool (bnot (ilt b a)))
  | .gtr => some (.bool (ilt b a))
  | .geq => some (.bool (bnot (ilt a b)))
  | _ => none
theorem acmp_some {op : BinOp} {a b : Int} {v : AV} (h : acmp op a b = some v) : ∃ c, v = .bool c ∧ ∀ w, (Op.intCmp op a b).run P w = .ok (.bool c) w := by
  cases op <;> cases h <;> refine ⟨_, rfl, fun w => ?_⟩ <;> simp only [Op.intCmp, ieq_eq, ilt_eq, bnot_eq] <;> simp [Sem.run_pure]
  · rfl
  · by_cases h : a ≤ b
    · have : ¬ b < a := by omega
      simp [h, this]
    · have : b < a := by omega
      simp [h, this]
  · by_cases h : b ≤ a
    · have : ¬ a < b := by omega
      simp [h, this]
    · have : a < b := by omega
      simp [h, this]

/-- Bits of two numbers that are no less than 0. -/
noncomputable def abits (op : BinOp) (k : IntKind) (m n : Nat) : Option AV :=
  tst (Nat.blt m (lim k)) (tst (Nat.blt n (lim k)) (match op with
    | .and => some (.int k (Int.ofNat (Nat.land m n)))
    | .or => some (.int k (Int.ofNat (Nat.lor m n)))
    | .xor => some (.int k (Int.ofNat (Nat.xor m n)))
    | .andNot => some (.int k (Int.ofNat (Nat.xor m (Nat.land m n))))
    | _ => none))
theorem lim_le (k : IntKind) : lim k ≤ 2 ^ k.bits := by cases k <;> simp [lim, IntKind.bits]
theorem lim_pow (k : IntKind) : ∃ j, lim k = 2 ^ j := by
  cases k
  · exact ⟨7, rfl⟩
  · exact ⟨15, rfl⟩
  · exact ⟨31, rfl⟩
  · exact ⟨63, rfl⟩
  · exact ⟨8, rfl⟩
  · exact ⟨16, rfl⟩
  · exact ⟨32, rfl⟩
  · exact ⟨64, rfl⟩
theorem toNat_ofInt {k : IntKind} {m : Nat} (h : m < lim k) : (BitVec.ofInt k.bits (m : Int)).toNat = m := by
  have := Nat.lt_of_lt_of_le h (lim_le k)
  simp
  exact Nat.mod_eq_of_lt this
theorem abits_some {op : BinOp} {k : IntKind} {m n : Nat} {v : AV} (h : abits op k m n = some v) : ∃ c, v = .int k c ∧ ∀ w, (Op.intBits op k (m : Int) (n : Int)).run P w = .ok (.int k c) w := by
  obtain ⟨h1, h⟩ := tst_some h
  obtain ⟨h2, h⟩ := tst_some h
  have hm := blt_true h1
  have hn := blt_true h2
  obtain ⟨j, hj⟩ := lim_pow k
  cases op <;> cases h
  · refine ⟨_, rfl, fun w => ?_⟩
    have hr : m &&& n < lim k := Nat.lt_of_le_of_lt Nat.and_le_left hm
    simp only [Op.intBits, BitVec.toNat_and, toNat_ofInt hm, toNat_ofInt hn, wrap_lim k _ hr, Sem.run_pure]; rfl
  · refine ⟨_, rfl, fun w => ?_⟩
    have hr : m ||| n < lim k := by rw [hj] at hm hn ⊢; exact Nat.or_lt_two_pow hm hn
    simp only [Op.intBits, BitVec.toNat_or, toNat_ofInt hm, toNat_ofInt hn, wrap_lim k _ hr, Sem.run_pure]; rfl
  · refine ⟨_, rfl, fun w => ?_⟩
    have hr : m ^^^ n < lim k := by rw [hj] at hm hn ⊢; exact Nat.xor_lt_two_pow hm hn
    simp only [Op.intBits, BitVec.toNat_xor, toNat_ofInt hm, toNat_ofInt hn, wrap_lim k _ hr, Sem.run_pure]; rfl
  · refine ⟨_, rfl, fun w => ?_⟩
    have hl : m &&& n < lim k := Nat.lt_of_le_of_lt Nat.and_le_left hm
    have hr : m ^^^ (m &&& n) < lim k := by rw [hj] at hm hl ⊢; exact Nat.xor_lt_two_pow hm hl
    have e : (BitVec.ofInt k.bits (m : Int) &&& ~~~ BitVec.ofInt k.bits (n : Int)).toNat = m ^^^ (m &&& n) := by
      have : BitVec.ofInt k.bits (m : Int) &&& ~~~ BitVec.ofInt k.bits (n : Int) = BitVec.ofInt k.bits (m : Int) ^^^ (BitVec.ofInt k.bits (m : Int) &&& BitVec.ofInt k.bits (n : Int)) := by
        ext i hi; simp only [BitVec.getElem_and, BitVec.getElem_not, BitVec.getElem_xor]; generalize (BitVec.ofInt k.bits (m : Int))[i] = x; generalize (BitVec.ofInt k.bits (n : Int))[i] = y; cases x <;> cases y <;> rfl
      rw [this, BitVec.toNat_xor, BitVec.toNat_and, toNat_ofInt hm, toNat_ofInt hn]
    simp only [Op.intBits, e, wrap_lim k _ hr, Sem.run_pure]; rfl

/-- Two numbers reckoned with. -/
noncomputable def aint (op : BinOp) (k : IntKind) (a : Int) (k' : IntKind) (b : Int) : Option AV :=
  match op with
  | .shl => Int.rec (fun m => some (.int k (wr k (Int.mul a (Int.ofNat (Nat.pow (nat_lit 2) (bcase (Nat.ble m (bitsN k)) m (bitsN k)))))))) (fun _ => none) b
  | .shr => Int.rec (fun m => Int.rec (fun x => some (.int k (Int.ofNat (Nat.shiftRight x (bcase (Nat.ble m (bitsN k)) m (bitsN k)))))) (fun _ => none) a) (fun _ => none) b
  | op => tst (ikeq k k') (match op with
    | .add => some (.int k (wr k (Int.add a b)))
    | .sub => some (.int k (wr k (Int.sub a b)))
    | .mul => some (.int k (wr k (Int.mul a b)))
    | .quo => bcase (ieq b 0) none (some (.int k (wr k (Int.tdiv a b))))
    | .rem => bcase (ieq b 0) none (some (.int k (Int.tmod a b)))
    | .and | .or | .xor | .andNot => Int.rec (fun m => Int.rec (fun n => abits op k m n) (fun _ => none) b) (fun _ => none) a
    | _ => acmp op a b)
where ikeq (k k' : IntKind) : Bool := match k, k' with
  | .i8, .i8 | .i16, .i16 | .i32, .i32 | .i64, .i64 | .u8, .u8 | .u16, .u16 | .u32, .u32 | .u64, .u64 => true
  | _, _ => false
theorem ikeq_true {k k' : IntKind} (h : aint.ikeq k k' = true) : k = k' := by cases k <;> cases k' <;> first | rfl | cases h
theorem bitsN_eq (k : IntKind) : bitsN k = k.bits := by cases k <;> rfl
theorem bmin_eq (m n : Nat) : bcase (Nat.ble m n) m n = min m n := by
  cases h : Nat.ble m n
  · have : ¬ m ≤ n := fun hle => by rw [Nat.ble_eq_true_of_le hle] at h; cases h
    rw [bcase_false]; omega
  · rw [bcase_true]; have := Nat.le_of_ble_eq_true h; omega
theorem aint_some {op : BinOp} {t : TypeId} {k k' : IntKind} {a b : Int} {v : AV} (h : aint op k a k' b = some v) :
    ∃ V, D η L v V ∧ ∀ w, (binOp op t (.int k a) (.int k' b)).run P w = .ok V w := by
  cases op
  case shl =>
    cases b with
    | negSucc m => cases h
    | ofNat m =>
      cases h
      refine ⟨_, rfl, fun w => ?_⟩
      have h0 : ¬ ((m : Int) < 0) := by omega
      simp only [binOp, Op.shift, wr_eq, bitsN_eq, bmin_eq, Int.ofNat_eq_natCast, h0, if_false, Int.toNat_natCast]
      simp [Sem.run_pure]
      try rfl
  case shr =>
    cases b with
    | negSucc m => cases h
    | ofNat m =>
      cases a with
      | negSucc x => cases h
      | ofNat x =>
        cases h
        refine ⟨_, rfl, fun w => ?_⟩
        have h0 : ¬ ((m : Int) < 0) := by omega
        simp only [binOp, Op.shift, bitsN_eq, bmin_eq, Int.ofNat_eq_natCast, h0, if_false, Int.toNat_natCast]
        have e : Int.fdiv (x : Int) (2 ^ (min m k.bits)) = ((Nat.shiftRight x (min m k.bits) : Nat) : Int) := by
          have e2 : Nat.shiftRight x (min m k.bits) = x / 2 ^ (min m k.bits) := Nat.shiftRight_eq_div_pow x _
          rw [e2, Int.fdiv_eq_ediv_of_nonneg _ (by exact_mod_cast Nat.zero_le (2 ^ min m k.bits))]
          simp
        simp [Sem.run_pure, e]
  all_goals
    have hk := ikeq_true (tst_some h).1
    replace h := (tst_some h).2
    subst hk
  case add => cases h; exact ⟨_, rfl, fun w => by simp [binOp, Op.intArith, wr_eq, Sem.run_pure] <;> rfl⟩
  case sub => cases h; exact ⟨_, rfl, fun w => by simp [binOp, Op.intArith, wr_eq, Sem.run_pure] <;> rfl⟩
  case mul => cases h; exact ⟨_, rfl, fun w => by simp [binOp, Op.intArith, wr_eq, Sem.run_pure] <;> rfl⟩
  case quo =>
    dsimp only at h
    rw [ieq_eq] at h
    by_cases hb : b = 0
    · subst hb; cases h
    · rw [show (b == 0) = false by simp [hb]] at h; cases h
      exact ⟨_, rfl, fun w => by simp [binOp, Op.intDiv, wr_eq, hb, Sem.run_pure]⟩
  case rem =>
    dsimp only at h
    rw [ieq_eq] at h
    by_cases hb : b = 0
    · subst hb; cases h
    · rw [show (b == 0) = false by simp [hb]] at h; cases h
      exact ⟨_, rfl, fun w => by simp [binOp, Op.intDiv, hb, Sem.run_pure]⟩
  case and =>
    cases a with
    | negSucc m => cases h
    | ofNat m => cases b with
      | negSucc n => cases h
      | ofNat n => obtain ⟨c, rfl, hc⟩ := abits_some (P := P) h; exact ⟨_, rfl, fun w => by simpa [binOp] using hc w⟩
  case or =>
    cases a with
    | negSucc m => cases h
    | ofNat m => cases b with
      | negSucc n => cases h
      | ofNat n => obtain ⟨c, rfl, hc⟩ := abits_some (P := P) h; exact ⟨_, rfl, fun w => by simpa [binOp] using hc w⟩
  case xor =>
    cases a with
    | negSucc m => cases h
    | ofNat m => cases b with
      | negSucc n => cases h
      | ofNat n => obtain ⟨c, rfl, hc⟩ := abits_some (P := P) h; exact ⟨_, rfl, fun w => by simpa [binOp] using hc w⟩
  case andNot =>
    cases a with
    | negSucc m => cases h
    | ofNat m => cases b with
      | negSucc n => cases h
      | ofNat n => obtain ⟨c, rfl, hc⟩ := abits_some (P := P) h; exact ⟨_, rfl, fun w => by simpa [binOp] using hc w⟩
  all_goals
    obtain ⟨c, rfl, hc⟩ := acmp_some (P := P) h
    exact ⟨_, rfl, fun w => by simpa [binOp] using hc w⟩
end Go.Proofs.YtcjlhjoobchabaaGreatDoor
