/- The engine, 1: trees over numbers; abstract values and what they stand for. No program. -/
import Derived.Calls
import Derived.Orders
import Derived.LoopN
import Derived.Below
import Derived.RowKit3
namespace Go.Proofs.YtcjlhjoobchabaaGreatDoor
open Go.RowKit
set_option linter.unusedVariables false

/-- A tree over numbers: 0 at the root; the odd ones left. -/
inductive T (α : Type) where
  | nil
  | node (l : T α) (v : Option α) (r : T α)
namespace T
variable {α β : Type}
noncomputable def get (t : T α) : Nat → Option α :=
  T.rec (fun _ => none) (fun _ v _ ihl ihr n => Bool.rec (Bool.rec (ihr (Nat.sub (Nat.div n (nat_lit 2)) (nat_lit 1))) (ihl (Nat.div n (nat_lit 2))) (Nat.beq (Nat.mod n (nat_lit 2)) (nat_lit 1))) v (Nat.beq n (nat_lit 0))) t
noncomputable def singleK (a : Option α) (f : Nat) : Nat → (T α → β) → β :=
  Nat.rec (fun _ k => k .nil) (fun _ ih n k => Bool.rec (Bool.rec (ih (Nat.sub (Nat.div n (nat_lit 2)) (nat_lit 1)) (fun r => k (.node .nil none r))) (ih (Nat.div n (nat_lit 2)) (fun l => k (.node l none .nil))) (Nat.beq (Nat.mod n (nat_lit 2)) (nat_lit 1))) (k (.node .nil a .nil)) (Nat.beq n (nat_lit 0))) f
noncomputable def setK (a : Option α) (t : T α) : Nat → (T α → β) → β :=
  T.rec (fun n k => singleK a (Nat.succ n) n k) (fun l v r ihl ihr n k => Bool.rec (Bool.rec (ihr (Nat.sub (Nat.div n (nat_lit 2)) (nat_lit 1)) (fun r' => k (.node l v r'))) (ihl (Nat.div n (nat_lit 2)) (fun l' => k (.node l' v r))) (Nat.beq (Nat.mod n (nat_lit 2)) (nat_lit 1))) (k (.node l a r)) (Nat.beq n (nat_lit 0))) t
noncomputable def set (a : Option α) (t : T α) (n : Nat) : T α := setK a t n id

theorem singleK_succ (a : Option α) (f n : Nat) (k : T α → β) : singleK a (f + 1) n k =
    (Bool.rec (Bool.rec (singleK a f (Nat.sub (Nat.div n 2) 1) (fun r => k (.node .nil none r))) (singleK a f (Nat.div n 2) (fun l => k (.node l none .nil))) (Nat.beq (Nat.mod n 2) 1)) (k (.node .nil a .nil)) (Nat.beq n 0) : β) := rfl
theorem setK_node (a : Option α) (l r : T α) (v : Option α) (n : Nat) (k : T α → β) : setK a (.node l v r) n k =
    (Bool.rec (Bool.rec (setK a r (Nat.sub (Nat.div n 2) 1) (fun r' => k (.node l v r'))) (setK a l (Nat.div n 2) (fun l' => k (.node l' v r))) (Nat.beq (Nat.mod n 2) 1)) (k (.node l a r)) (Nat.beq n 0) : β) := rfl
theorem get_node (l r : T α) (v : Option α) (n : Nat) : get (T.node l v r) n =
    (Bool.rec (Bool.rec (get r (Nat.sub (Nat.div n 2) 1)) (get l (Nat.div n 2)) (Nat.beq (Nat.mod n 2) 1)) v (Nat.beq n 0) : Option α) := rfl
theorem get_nil (n : Nat) : get (.nil : T α) n = none := rfl
theorem singleK_eq (a : Option α) : ∀ (f : Nat) (β : Type) (n : Nat) (k : T α → β), singleK a f n k = k (singleK a f n id)
  | 0, _, n, k => rfl
  | f + 1, β, n, k => by
    rw [singleK_succ, singleK_succ]
    cases Nat.beq n 0
    · cases Nat.beq (Nat.mod n 2) 1
      · show singleK a f (Nat.sub (Nat.div n 2) 1) (fun r => k (T.node .nil none r)) = k (singleK a f (Nat.sub (Nat.div n 2) 1) (fun r => T.node .nil none r))
        rw [singleK_eq a f β, singleK_eq a f (T α) _ (fun r => T.node .nil none r)]
      · show singleK a f (Nat.div n 2) (fun r => k (T.node r none .nil)) = k (singleK a f (Nat.div n 2) (fun r => T.node r none .nil))
        rw [singleK_eq a f β, singleK_eq a f (T α) _ (fun r => T.node r none .nil)]
    · rfl
theorem setK_eq (a : Option α) (t : T α) : ∀ (β : Type) (n : Nat) (k : T α → β), setK a t n k = k (set a t n) := by
  induction t with
  | nil => intro β n k; show singleK a (n + 1) n k = k (singleK a (n + 1) n id); exact singleK_eq a (n + 1) β n k
  | node l v r ihl ihr =>
    intro β n k
    unfold set
    rw [setK_node, setK_node]
    cases Nat.beq n 0
    · cases Nat.beq (Nat.mod n 2) 1
      · show setK a r (Nat.sub (Nat.div n 2) 1) (fun r' => k (T.node l v r')) = k (setK a r (Nat.sub (Nat.div n 2) 1) (fun r' => T.node l v r'))
        rw [ihr β, ihr (T α) _ (fun r' => T.node l v r')]
      · show setK a l (Nat.div n 2) (fun r' => k (T.node r' v r)) = k (setK a l (Nat.div n 2) (fun r' => T.node r' v r))
        rw [ihl β, ihl (T α) _ (fun r' => T.node r' v r)]
    · rfl
theorem beq_eq (n m : Nat) : Nat.beq n m = decide (n = m) := by
  cases h : Nat.beq n m
  · exact (decide_eq_false (Nat.ne_of_beq_eq_false h)).symm
  · exact (decide_eq_true (Nat.eq_of_beq_eq_true h)).symm
theorem get_single (a : Option α) : ∀ (f n m : Nat), n < f → get (singleK a f n id) m = if m = n then a else none
  | 0, n, m, h => by omega
  | f + 1, n, m, h => by
    rw [singleK_succ]
    by_cases h0 : n = 0
    · subst h0
      show get (T.node .nil a .nil) m = _
      rw [get_node]
      by_cases hm : m = 0
      · subst hm; rfl
      · rw [beq_eq m 0, decide_eq_false hm, if_neg hm]
        cases Nat.beq (Nat.mod m 2) 1 <;> rfl
    · rw [beq_eq n 0, decide_eq_false h0]
      by_cases h1 : Nat.mod n 2 = 1
      · rw [beq_eq _ 1, decide_eq_true h1]
        show get (singleK a f (Nat.div n 2) (fun l => id (T.node l none .nil))) m = _
        rw [singleK_eq]
        show get (T.node (singleK a f (Nat.div n 2) id) none .nil) m = _
        have hd : n / 2 < f := by omega
        have e1 : Nat.mod n 2 = n % 2 := rfl
        rw [get_node]
        by_cases hm : m = 0
        · subst hm; rw [if_neg (by omega)]; rfl
        · rw [beq_eq m 0, decide_eq_false hm]
          by_cases hm1 : Nat.mod m 2 = 1
          · rw [beq_eq _ 1, decide_eq_true hm1]
            have e2 : Nat.mod m 2 = m % 2 := rfl
            show get (singleK a f (n / 2) id) (m / 2) = _
            rw [get_single a f _ _ hd]
            by_cases e : m = n
            · rw [if_pos (by omega), if_pos e]
            · rw [if_neg (by omega), if_neg e]
          · rw [beq_eq _ 1, decide_eq_false hm1]
            rw [if_neg (by rintro rfl; exact hm1 h1)]
            rfl
      · rw [beq_eq _ 1, decide_eq_false h1]
        show get (singleK a f (Nat.sub (Nat.div n 2) 1) (fun l => id (T.node .nil none l))) m = _
        rw [singleK_eq]
        show get (T.node .nil none (singleK a f (Nat.sub (Nat.div n 2) 1) id)) m = _
        have hd : n / 2 - 1 < f := by omega
        have e1 : Nat.mod n 2 = n % 2 := rfl
        rw [get_node]
        by_cases hm : m = 0
        · subst hm; rw [if_neg (by omega)]; rfl
        · rw [beq_eq m 0, decide_eq_false hm]
          by_cases hm1 : Nat.mod m 2 = 1
          · rw [beq_eq _ 1, decide_eq_true hm1]
            rw [if_neg (by rintro rfl; exact h1 hm1)]
            rfl
          · rw [beq_eq _ 1, decide_eq_false hm1]
            have e2 : Nat.mod m 2 = m % 2 := rfl
            show get (singleK a f (n / 2 - 1) id) (m / 2 - 1) = _
            rw [get_single a f _ _ hd]
            by_cases e : m = n
            · rw [if_pos (by omega), if_pos e]
            · rw [if_neg (by omega), if_neg e]
theorem get_set (a : Option α) (t : T α) : ∀ (n m : Nat), get (set a t n) m = if m = n then a else get t m := by
  induction t with
  | nil => intro n m; exact get_single a (n + 1) n m (by omega)
  | node l v r ihl ihr =>
    intro n m
    unfold set
    rw [setK_node]
    by_cases h0 : n = 0
    · subst h0
      show get (T.node l a r) m = _
      rw [get_node, get_node]
      by_cases hm : m = 0
      · subst hm; rfl
      · rw [beq_eq m 0, decide_eq_false hm, if_neg hm]
    · rw [beq_eq n 0, decide_eq_false h0]
      by_cases h1 : Nat.mod n 2 = 1
      · rw [beq_eq _ 1, decide_eq_true h1]
        show get (setK a l (Nat.div n 2) (fun l' => id (T.node l' v r))) m = _
        rw [setK_eq]
        show get (T.node (set a l (n / 2)) v r) m = _
        have e1 : Nat.mod n 2 = n % 2 := rfl
        rw [get_node, get_node]
        by_cases hm : m = 0
        · subst hm; rw [if_neg (by omega)]; rfl
        · rw [beq_eq m 0, decide_eq_false hm]
          by_cases hm1 : Nat.mod m 2 = 1
          · rw [beq_eq _ 1, decide_eq_true hm1]
            have e2 : Nat.mod m 2 = m % 2 := rfl
            show get (set a l (n / 2)) (m / 2) = if m = n then a else get l (m / 2)
            rw [ihl]
            by_cases e : m = n
            · rw [if_pos (by omega), if_pos e]
            · rw [if_neg (by omega), if_neg e]
          · rw [beq_eq _ 1, decide_eq_false hm1]
            rw [if_neg (by rintro rfl; exact hm1 h1)]
      · rw [beq_eq _ 1, decide_eq_false h1]
        show get (setK a r (Nat.sub (Nat.div n 2) 1) (fun l' => id (T.node l v l'))) m = _
        rw [setK_eq]
        show get (T.node l v (set a r (n / 2 - 1))) m = _
        have e1 : Nat.mod n 2 = n % 2 := rfl
        rw [get_node, get_node]
        by_cases hm : m = 0
        · subst hm; rw [if_neg (by omega)]; rfl
        · rw [beq_eq m 0, decide_eq_false hm]
          by_cases hm1 : Nat.mod m 2 = 1
          · rw [beq_eq _ 1, decide_eq_true hm1]
            rw [if_neg (by rintro rfl; exact h1 hm1)]
          · rw [beq_eq _ 1, decide_eq_false hm1]
            have e2 : Nat.mod m 2 = m % 2 := rfl
            show get (set a r (n / 2 - 1)) (m / 2 - 1) = if m = n then a else get r (m / 2 - 1)
            rw [ihr]
            by_cases e : m = n
            · rw [if_pos (by omega), if_pos e]
            · rw [if_neg (by omega), if_neg e]
end T
end Go.Proofs.YtcjlhjoobchabaaGreatDoor
