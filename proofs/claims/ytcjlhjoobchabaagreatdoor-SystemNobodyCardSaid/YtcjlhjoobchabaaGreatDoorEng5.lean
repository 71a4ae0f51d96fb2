/- The engine, 5: unknown numbers; comparisons. -/
import Derived.Test.YtcjlhjoobchabaaGreatDoorEng4
import Derived.Laws.Strings
import Derived.Laws.Concat
namespace Go.Proofs.YtcjlhjoobchabaaGreatDoor
open Go.RowKit
set_option linter.unusedVariables false
set_option linter.unusedSimpArgs false
variable {η : Nat → Int} {L L' : LM} {P : Program}

noncomputable def lget {α : Type} (l : List α) (n : Nat) : Option α := Nat.rec (motive := fun _ => List α → Option α) (fun l => List.rec none (fun a _ _ => some a) l) (fun _ ih l => List.rec none (fun _ t _ => ih t) l) n l
theorem lget_eq {α : Type} : ∀ (n : Nat) (l : List α), lget l n = l[n]?
  | 0, [] => rfl
  | 0, a :: l => rfl
  | n + 1, [] => rfl
  | n + 1, a :: l => (lget_eq n l).trans (by simp)

/-- What is known of the unknown numbers: bounds; pairs that are not alike. -/
structure Facts where
  rng : List (Int × Int)
  apart : List (Nat × Nat)
structure Facts.Hold (F : Facts) (η : Nat → Int) : Prop where
  rng : ∀ v lo hi, F.rng[v]? = some (lo, hi) → lo ≤ η v ∧ η v ≤ hi
  apart : ∀ v u, (v, u) ∈ F.apart → η v ≠ η u
noncomputable def kmin (k : IntKind) : Int := match k with
  | .i8 => Int.negSucc (nat_lit 127) | .i16 => Int.negSucc (nat_lit 32767) | .i32 => Int.negSucc (nat_lit 2147483647) | .i64 => Int.negSucc (nat_lit 9223372036854775807)
  | _ => Int.ofNat (nat_lit 0)
noncomputable def kmax (k : IntKind) : Int := match k with
  | .i8 => Int.ofNat (nat_lit 127) | .i16 => Int.ofNat (nat_lit 32767) | .i32 => Int.ofNat (nat_lit 2147483647) | .i64 => Int.ofNat (nat_lit 9223372036854775807)
  | .u8 => Int.ofNat (nat_lit 255) | .u16 => Int.ofNat (nat_lit 65535) | .u32 => Int.ofNat (nat_lit 4294967295) | .u64 => Int.ofNat (nat_lit 18446744073709551615)
theorem wrap_in (k : IntKind) (x : Int) (h0 : kmin k ≤ x) (h1 : x ≤ kmax k) : k.wrap x = x := by
  cases k <;> simp [kmin, kmax] at h0 h1 <;> simp [IntKind.wrap, IntKind.bits, IntKind.signed] <;> omega
theorem wrap_wrap (k : IntKind) (x y : Int) : k.wrap (k.wrap x + y) = k.wrap (x + y) := by
  cases k <;> simp only [IntKind.wrap, IntKind.bits, IntKind.signed, Bool.true_and, Bool.false_and, if_false, Bool.false_eq_true] <;>
    (first | omega | (simp only [ge_iff_le, decide_eq_true_eq]; split <;> split <;> split <;> omega) | (simp only [ge_iff_le, decide_eq_true_eq]; repeat' split) <;> omega)
theorem wrap_sub_wrap (k : IntKind) (x y : Int) : k.wrap (k.wrap x - y) = k.wrap (x - y) := by
  rw [Int.sub_eq_add_neg, wrap_wrap, Int.sub_eq_add_neg]
theorem wrap_inj (k : IntKind) (x c d : Int) : k.wrap (x + c) = k.wrap (x + d) ↔ (c - d) % (2 ^ k.bits : Int) = 0 := by
  cases k <;> simp only [IntKind.wrap, IntKind.bits, IntKind.signed, Bool.true_and, Bool.false_and, if_false, Bool.false_eq_true] <;>
    (first | omega | (simp only [ge_iff_le, decide_eq_true_eq]; split <;> split <;> omega))

/-- The unknown number's bounds, where it and c are within its kind. -/
noncomputable def srng {β : Type} (F : Facts) (k : IntKind) (v : Nat) (c : Int) (f : Int → Int → Option β) : Option β :=
  ob (lget F.rng v) fun p => Prod.rec (fun lo hi => tst (bnot (ilt (Int.add lo c) (kmin k))) (tst (bnot (ilt (kmax k) (Int.add hi c))) (f (Int.add lo c) (Int.add hi c)))) p
theorem srng_some {β : Type} {F : Facts} {k : IntKind} {v : Nat} {c : Int} {f : Int → Int → Option β} {r : β} (hF : F.Hold η) (h : srng F k v c f = some r) :
    ∃ lo hi, lo ≤ η v + c ∧ η v + c ≤ hi ∧ kmin k ≤ lo ∧ hi ≤ kmax k ∧ k.wrap (η v + c) = η v + c ∧ f lo hi = some r := by
  obtain ⟨⟨lo, hi⟩, hp, h⟩ := ob_some h
  obtain ⟨h1, h⟩ := tst_some h
  obtain ⟨h2, h⟩ := tst_some h
  rw [lget_eq] at hp
  obtain ⟨f1, f2⟩ := hF.rng v lo hi hp
  rw [bnot_eq, ilt_eq] at h1 h2
  simp only [Bool.not_eq_true', decide_eq_false_iff_not] at h1 h2
  have h1' : ¬ (lo + c < kmin k) := h1
  have h2' : ¬ (kmax k < hi + c) := h2
  exact ⟨lo + c, hi + c, by omega, by omega, by omega, by omega, wrap_in k _ (by omega) (by omega), h⟩

/-- An unknown number within bounds against one that is known. -/
noncomputable def scmp (op : BinOp) (lo hi b : Int) : Option AV :=
  match op with
  | .eql => bcase (ilt b lo) (some (.bool false)) (bcase (ilt hi b) (some (.bool false)) none)
  | .neq => bcase (ilt b lo) (some (.bool true)) (bcase (ilt hi b) (some (.bool true)) none)
  | .lss => bcase (ilt hi b) (some (.bool true)) (bcase (ilt lo b) none (some (.bool false)))
  | .geq => bcase (ilt hi b) (some (.bool false)) (bcase (ilt lo b) none (some (.bool true)))
  | .gtr => bcase (ilt b lo) (some (.bool true)) (bcase (ilt b hi) none (some (.bool false)))
  | .leq => bcase (ilt b lo) (some (.bool false)) (bcase (ilt b hi) none (some (.bool true)))
  | _ => none
theorem scmp_some {op : BinOp} {lo hi b x : Int} {v : AV} (h0 : lo ≤ x) (h1 : x ≤ hi) (h : scmp op lo hi b = some v) : ∃ c, v = .bool c ∧ ∀ w, (Op.intCmp op x b).run P w = .ok (.bool c) w := by
  cases op <;> simp only [scmp, ilt_eq] at h <;> try (cases h; done)
  · by_cases e1 : b < lo
    · rw [decide_eq_true e1] at h; cases h; exact ⟨_, rfl, fun w => by simp [Op.intCmp, Sem.run_pure] <;> omega⟩
    · rw [decide_eq_false e1] at h
      by_cases e2 : hi < b
      · rw [decide_eq_true e2] at h; cases h; exact ⟨_, rfl, fun w => by simp [Op.intCmp, Sem.run_pure] <;> omega⟩
      · rw [decide_eq_false e2] at h; cases h
  · by_cases e1 : b < lo
    · rw [decide_eq_true e1] at h; cases h; exact ⟨_, rfl, fun w => by simp [Op.intCmp, Sem.run_pure] <;> omega⟩
    · rw [decide_eq_false e1] at h
      by_cases e2 : hi < b
      · rw [decide_eq_true e2] at h; cases h; exact ⟨_, rfl, fun w => by simp [Op.intCmp, Sem.run_pure] <;> omega⟩
      · rw [decide_eq_false e2] at h; cases h
  · by_cases e1 : hi < b
    · rw [decide_eq_true e1] at h; cases h; exact ⟨_, rfl, fun w => by simp [Op.intCmp, Sem.run_pure, (by omega : x < b)]⟩
    · rw [decide_eq_false e1] at h
      by_cases e2 : lo < b
      · rw [decide_eq_true e2] at h; cases h
      · rw [decide_eq_false e2] at h; cases h; exact ⟨_, rfl, fun w => by simp [Op.intCmp, Sem.run_pure, (by omega : ¬ x < b)]; omega⟩
  · by_cases e1 : b < lo
    · rw [decide_eq_true e1] at h; cases h; exact ⟨_, rfl, fun w => by simp [Op.intCmp, Sem.run_pure, (by omega : ¬ x ≤ b)]; omega⟩
    · rw [decide_eq_false e1] at h
      by_cases e2 : b < hi
      · rw [decide_eq_true e2] at h; cases h
      · rw [decide_eq_false e2] at h; cases h; exact ⟨_, rfl, fun w => by simp [Op.intCmp, Sem.run_pure, (by omega : x ≤ b)]⟩
  · by_cases e1 : b < lo
    · rw [decide_eq_true e1] at h; cases h; exact ⟨_, rfl, fun w => by simp [Op.intCmp, Sem.run_pure, (by omega : b < x)]⟩
    · rw [decide_eq_false e1] at h
      by_cases e2 : b < hi
      · rw [decide_eq_true e2] at h; cases h
      · rw [decide_eq_false e2] at h; cases h; exact ⟨_, rfl, fun w => by simp [Op.intCmp, Sem.run_pure, (by omega : ¬ b < x)]; omega⟩
  · by_cases e1 : hi < b
    · rw [decide_eq_true e1] at h; cases h; exact ⟨_, rfl, fun w => by simp [Op.intCmp, Sem.run_pure, (by omega : ¬ b ≤ x)]; omega⟩
    · rw [decide_eq_false e1] at h
      by_cases e2 : lo < b
      · rw [decide_eq_true e2] at h; cases h
      · rw [decide_eq_false e2] at h; cases h; exact ⟨_, rfl, fun w => by simp [Op.intCmp, Sem.run_pure, (by omega : b ≤ x)]⟩

noncomputable def symInt (F : Facts) (op : BinOp) (k : IntKind) (v : Nat) (c : Int) (k' : IntKind) (b : Int) : Option AV :=
  tst (aint.ikeq k k') (match op with
    | .add => some (.sym k v (Int.add c b))
    | .sub => some (.sym k v (Int.sub c b))
    | .eql | .neq | .lss | .leq | .gtr | .geq => srng F k v c fun lo hi => scmp op lo hi b
    | _ => none)
noncomputable def flipOp (op : BinOp) : BinOp := match op with | .lss => .gtr | .gtr => .lss | .leq => .geq | .geq => .leq | op => op
noncomputable def intSym (F : Facts) (op : BinOp) (k : IntKind) (a : Int) (k' : IntKind) (v : Nat) (c : Int) : Option AV :=
  tst (aint.ikeq k k') (match op with
    | .add => some (.sym k v (Int.add c a))
    | .eql | .neq | .lss | .leq | .gtr | .geq => srng F k v c fun lo hi => scmp (flipOp op) lo hi a
    | _ => none)
noncomputable def pairIn (v u : Nat) (l : List (Nat × Nat)) : Bool := List.rec false (fun p _ ih => Prod.rec (fun x y => bcase (Nat.beq x v) (bcase (Nat.beq y u) true ih) ih) p) l
noncomputable def symSym (F : Facts) (op : BinOp) (k : IntKind) (v : Nat) (c : Int) (k' : IntKind) (u : Nat) (d : Int) : Option AV :=
  tst (aint.ikeq k k') (bcase (Nat.beq v u)
    (match op with
      | .eql => some (.bool (ieq (Int.emod (Int.sub c d) (Int.ofNat (Nat.pow (nat_lit 2) (bitsN k)))) (Int.ofNat (nat_lit 0))))
      | .neq => some (.bool (bnot (ieq (Int.emod (Int.sub c d) (Int.ofNat (Nat.pow (nat_lit 2) (bitsN k)))) (Int.ofNat (nat_lit 0)))))
      | _ => none)
    (tst (ieq c (Int.ofNat (nat_lit 0))) (tst (ieq d (Int.ofNat (nat_lit 0))) (tst (pairIn v u F.apart) (srng F k v c fun _ _ => srng F k u d fun _ _ => (match op with
      | .eql => some (.bool false)
      | .neq => some (.bool true)
      | _ => none))))))

theorem pairIn_true {v u : Nat} : ∀ {l : List (Nat × Nat)}, pairIn v u l = true → (v, u) ∈ l
  | [], h => by cases h
  | (x, y) :: l, h => by
    have h' : bcase (Nat.beq x v) (bcase (Nat.beq y u) true (pairIn v u l)) (pairIn v u l) = true := h
    cases h1 : Nat.beq x v
    · rw [h1] at h'; exact List.mem_cons_of_mem _ (pairIn_true h')
    · rw [h1, bcase_true] at h'
      cases h2 : Nat.beq y u
      · rw [h2] at h'; exact List.mem_cons_of_mem _ (pairIn_true h')
      · have := Nat.eq_of_beq_eq_true h1; have := Nat.eq_of_beq_eq_true h2; subst_vars; exact List.mem_cons_self

theorem symInt_some {F : Facts} (hF : F.Hold η) {op : BinOp} {t : TypeId} {k k' : IntKind} {v : Nat} {c b : Int} {r : AV} (h : symInt F op k v c k' b = some r) :
    ∃ V, D η L r V ∧ ∀ w, (binOp op t (.int k (k.wrap (η v + c))) (.int k' b)).run P w = .ok V w := by
  have hk := ikeq_true (tst_some h).1
  replace h := (tst_some h).2
  subst hk
  cases op <;> try (cases h; done)
  case add => cases h; exact ⟨_, rfl, fun w => by simp [binOp, Op.intArith, Sem.run_pure, wrap_wrap, Int.add_assoc] <;> rfl⟩
  case sub => cases h; exact ⟨_, rfl, fun w => by simp only [binOp, Op.intArith, ne_eq, not_true_eq_false, if_false, Sem.run_pure, wrap_sub_wrap, Int.add_sub_assoc] <;> rfl⟩
  all_goals
    obtain ⟨lo, hi, h0, h1, _, _, hw, h⟩ := srng_some hF h
    obtain ⟨c', rfl, hc⟩ := scmp_some (P := P) h0 h1 h
    exact ⟨_, rfl, fun w => by rw [hw]; simpa [binOp] using hc w⟩
theorem intCmp_flip (op : BinOp) (x b : Int) (w : World) (hop : op = .eql ∨ op = .neq ∨ op = .lss ∨ op = .leq ∨ op = .gtr ∨ op = .geq) : (Op.intCmp (flipOp op) x b).run P w = (Op.intCmp op b x).run P w := by
  rcases hop with rfl | rfl | rfl | rfl | rfl | rfl <;> simp [flipOp, Op.intCmp, Sem.run_pure]
  · by_cases e : x = b
    · subst e; rfl
    · have h2 : ¬ b = x := fun h => e h.symm
      have e1 : (x == b) = false := by simpa using e
      have e2 : (b == x) = false := by simpa using h2
      simp only [e1, e2, bne]
  · by_cases e : x = b
    · subst e; rfl
    · have h2 : ¬ b = x := fun h => e h.symm
      have e1 : (x == b) = false := by simpa using e
      have e2 : (b == x) = false := by simpa using h2
      simp only [e1, e2, bne]
theorem intSym_some {F : Facts} (hF : F.Hold η) {op : BinOp} {t : TypeId} {k k' : IntKind} {v : Nat} {c a : Int} {r : AV} (h : intSym F op k a k' v c = some r) :
    ∃ V, D η L r V ∧ ∀ w, (binOp op t (.int k a) (.int k' (k'.wrap (η v + c)))).run P w = .ok V w := by
  have hk := ikeq_true (tst_some h).1
  replace h := (tst_some h).2
  subst hk
  cases op <;> try (cases h; done)
  case add => cases h; exact ⟨_, rfl, fun w => by simp [binOp, Op.intArith, Sem.run_pure]; rw [Int.add_comm a, wrap_wrap, Int.add_assoc] <;> rfl⟩
  all_goals
    obtain ⟨lo, hi, h0, h1, _, _, hw, h⟩ := srng_some hF h
    obtain ⟨c', rfl, hc⟩ := scmp_some (P := P) h0 h1 h
    exact ⟨_, rfl, fun w => by have := hc w; rw [intCmp_flip _ _ _ _ (by simp)] at this; rw [hw]; simpa [binOp] using this⟩
theorem symSym_some {F : Facts} (hF : F.Hold η) {op : BinOp} {t : TypeId} {k k' : IntKind} {v u : Nat} {c d : Int} {r : AV} (h : symSym F op k v c k' u d = some r) :
    ∃ V, D η L r V ∧ ∀ w, (binOp op t (.int k (k.wrap (η v + c))) (.int k' (k'.wrap (η u + d)))).run P w = .ok V w := by
  have hk := ikeq_true (tst_some h).1
  replace h := (tst_some h).2
  subst hk
  cases hb : Nat.beq v u
  · rw [hb, bcase_false] at h
    obtain ⟨hc, h⟩ := tst_some h
    obtain ⟨hd, h⟩ := tst_some h
    obtain ⟨hp, h⟩ := tst_some h
    rw [ieq_eq] at hc hd
    have hc' : c = 0 := by simpa using hc
    have hd' : d = 0 := by simpa using hd
    subst hc'; subst hd'
    obtain ⟨_, _, _, _, _, _, hw1, h⟩ := srng_some hF h
    obtain ⟨_, _, _, _, _, _, hw2, h⟩ := srng_some hF h
    have hne := hF.apart v u (pairIn_true hp)
    have hne' : ¬ (η v + 0 = η u + 0) := by omega
    cases op <;> cases h <;> exact ⟨_, rfl, fun w => by rw [hw1, hw2]; simp only [Int.add_zero] at hne' ⊢; simp [binOp, Op.intCmp, Sem.run_pure, hne']⟩
  · have := Nat.eq_of_beq_eq_true hb; subst this
    rw [hb, bcase_true] at h
    have key : ieq (Int.emod (Int.sub c d) (Int.ofNat (Nat.pow 2 (bitsN k)))) (Int.ofNat 0) = (k.wrap (η v + c) == k.wrap (η v + d)) := by
      have e3 : Int.ofNat (Nat.pow 2 k.bits) = (2 ^ k.bits : Int) := by
        have : ((2 ^ k.bits : Nat) : Int) = (2 ^ k.bits : Int) := by simp
        exact this
      rw [ieq_eq, bitsN_eq, e3]
      have e := wrap_inj k (η v) c d
      by_cases h : k.wrap (η v + c) = k.wrap (η v + d)
      · have := e.1 h
        rw [h]
        simp only [beq_self_eq_true]
        exact beq_iff_eq.2 this
      · have : ¬ ((c - d) % (2 ^ k.bits : Int) = 0) := fun q => h (e.2 q)
        have h2 : (k.wrap (η v + c) == k.wrap (η v + d)) = false := by simpa using h
        rw [h2]
        exact beq_eq_false_iff_ne.2 this
    cases op <;> cases h
    · exact ⟨_, rfl, fun w => by rw [key]; simp [binOp, Op.intCmp, Sem.run_pure]⟩
    · exact ⟨_, rfl, fun w => by rw [bnot_eq, key]; simp [binOp, Op.intCmp, Sem.run_pure, bne]⟩
end Go.Proofs.YtcjlhjoobchabaaGreatDoor
