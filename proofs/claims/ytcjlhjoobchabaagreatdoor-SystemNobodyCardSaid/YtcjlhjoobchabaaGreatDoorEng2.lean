/- The engine, 2: abstract values, what they stand for; the abstract heap. No program. -/
import Derived.Test.YtcjlhjoobchabaaGreatDoorEng1
namespace Go.Proofs.YtcjlhjoobchabaaGreatDoor
open Go.RowKit
set_option linter.unusedVariables false

/-- What the call's own numbers stand for: blocks, and numbers that the world chose. -/
structure LM where
  at_ : Nat → Option Nat
instance : GetElem? LM Nat Nat (fun L o => (L.at_ o).isSome = true) where
  getElem L o h := (L.at_ o).get h
  getElem? L o := L.at_ o
def LM.none_ : LM := ⟨fun _ => none⟩
def LM.ext (L : LM) (n b : Nat) : LM := ⟨fun o => if o = n then some b else L.at_ o⟩
theorem LM.ext_get (L : LM) (n b o : Nat) : (L.ext n b)[o]? = if o = n then some b else L[o]? := rfl
theorem LM.ext_at (L : LM) (n b : Nat) : (L.ext n b)[n]? = some b := by rw [LM.ext_get, if_pos rfl]
def LM.Le (L L' : LM) : Prop := ∀ o b : Nat, L[o]? = some b → L'[o]? = some b
theorem LM.Le.refl (L : LM) : LM.Le L L := fun _ _ h => h
theorem LM.Le.trans {L L' L'' : LM} (h : LM.Le L L') (k : LM.Le L' L'') : LM.Le L L'' := fun o b hb => k o b (h o b hb)
theorem LM.none_le (L : LM) : LM.Le LM.none_ L := fun _ _ h => by cases h
theorem LM.ext_le {L : LM} {n b : Nat} (h : L[n]? = none) : LM.Le L (L.ext n b) := fun o c hc => by
  rw [LM.ext_get]
  by_cases e : o = n
  · subst e; rw [h] at hc; cases hc
  · rw [if_neg e]; exact hc

/-- Abstract values; 'nil' and 'cons' are lists of values. 'sym k v c': the v-th unknown number and c. 'ptr o off': the call's o-th object. 'vslice': its capacity is a number that the world chose, less k. 'eslice': of length 0, at an offset that the world chose. 'sbyte v i': the i-th byte of the v-th unknown number. -/
inductive AV where
  | nil | cons (a l : AV)
  | bool (b : Bool) | int (k : IntKind) (n : Int) | sym (k : IntKind) (v : Nat) (c : Int) | sbyte (v i : Nat)
  | str (s : ByteArray)
  | nptr | ptr (o off : Nat) | gptr (g off : Nat)
  | nslice | slice (o off len cap : Nat) | vslice (o off len cv k : Nat) | eslice (o ov cv k : Nat)
  | nmap | map (o : Nat)
  | nfunc | func (fn : Fn) (first captured : AV) | yieldf (o : Nat)
  | niface | iface (t : TypeId) (v : AV)
  | agg (l : AV) | tuple (l : AV)

def undefA : AV := .tuple .nil

def ptrOf (x : Option Nat) (off : Nat) : Option (List Value) := x.map fun b => [.pointer (some ⟨b, off, none⟩)]
def sliceOf (x : Option Nat) (off len : Nat) (c : Option Nat) : Option (List Value) :=
  match x, c with | some b, some c => some [.slice (some ⟨b, off, none⟩) len c] | _, _ => none
def vsliceOf (x : Option Nat) (off len k : Nat) (c : Option Nat) : Option (List Value) :=
  match x, c with | some b, some c => if len ≤ c - k then some [.slice (some ⟨b, off, none⟩) len (c - k)] else none | _, _ => none
def esliceOf (x ov c : Option Nat) : Option (List Value) :=
  match x, ov, c with | some b, some off, some c => some [.slice (some ⟨b, off, none⟩) 0 c] | _, _, _ => none
def consOf : Option (List Value) → Option (List Value) → Option (List Value)
  | some [x], some y => some (x :: y)
  | _, _ => none
def funcOf (fn : Fn) : Option (List Value) → Option (List Value) → Option (List Value)
  | some x, some y => some [.func fn x.toArray y.toArray]
  | _, _ => none
def ifaceOf (t : TypeId) : Option (List Value) → Option (List Value)
  | some [x] => some [.iface t x]
  | _ => none

/-- What an abstract value stands for, L telling the blocks (and capacities), η the unknown numbers. -/
def den (η : Nat → Int) (L : LM) : AV → Option (List Value)
  | .nil => some []
  | .cons a l => consOf (den η L a) (den η L l)
  | .bool b => some [.bool b]
  | .int k n => some [.int k n]
  | .sym k v c => some [.int k (k.wrap (η v + c))]
  | .sbyte v i => some [.int .u8 (η v / 2 ^ (8 * i) % 256)]
  | .str s => some [.string s]
  | .nptr => some [.pointer none]
  | .ptr o off => ptrOf L[o]? off
  | .gptr g off => some [.pointer (some ⟨g, off, none⟩)]
  | .nslice => some [.slice none 0 0]
  | .slice o off len cap => sliceOf L[o]? off len (some cap)
  | .vslice o off len cv k => vsliceOf L[o]? off len k L[cv]?
  | .eslice o ov cv k => esliceOf L[o]? L[ov]? (L[cv]?.map (· - k))
  | .nmap => some [.map none]
  | .map o => L[o]?.map fun b => [.map (some b)]
  | .nfunc => some [.nilFunc]
  | .func fn f c => funcOf fn (den η L f) (den η L c)
  | .yieldf o => L[o]?.map fun b => [.func (.yield b) #[] #[]]
  | .niface => some [.nilIface]
  | .iface t v => ifaceOf t (den η L v)
  | .agg l => (den η L l).map fun x => [.agg x.toArray]
  | .tuple l => (den η L l).map fun x => [.tuple x.toArray]

variable {η : Nat → Int} {L L' : LM}

theorem get_prefix {o : Nat} {b : Nat} (h : LM.Le L L') (hb : L[o]? = some b) : L'[o]? = some b := h o b hb
theorem ptrOf_some {x : Option Nat} {off : Nat} {V : List Value} (h : ptrOf x off = some V) : ∃ b, x = some b ∧ V = [.pointer (some ⟨b, off, none⟩)] := by
  cases x with
  | none => simp [ptrOf] at h
  | some b => exact ⟨b, rfl, by simpa [ptrOf] using h.symm⟩
theorem sliceOf_some {x c : Option Nat} {off len : Nat} {V : List Value} (h : sliceOf x off len c = some V) : ∃ b k, x = some b ∧ c = some k ∧ V = [.slice (some ⟨b, off, none⟩) len k] := by
  cases x <;> cases c <;> simp [sliceOf] at h
  exact ⟨_, _, rfl, rfl, h.symm⟩
theorem vsliceOf_some {x c : Option Nat} {off len k : Nat} {V : List Value} (h : vsliceOf x off len k c = some V) : ∃ b q, x = some b ∧ c = some q ∧ len ≤ q - k ∧ V = [.slice (some ⟨b, off, none⟩) len (q - k)] := by
  cases x <;> cases c <;> simp [vsliceOf] at h
  exact ⟨_, _, rfl, rfl, h.1, h.2.symm⟩
theorem esliceOf_some {x y c : Option Nat} {V : List Value} (h : esliceOf x y c = some V) : ∃ b off k, x = some b ∧ y = some off ∧ c = some k ∧ V = [.slice (some ⟨b, off, none⟩) 0 k] := by
  cases x <;> cases y <;> cases c <;> simp [esliceOf] at h
  exact ⟨_, _, _, rfl, rfl, rfl, h.symm⟩
theorem consOf_some {x y : Option (List Value)} {V : List Value} (h : consOf x y = some V) : ∃ a l, x = some [a] ∧ y = some l ∧ V = a :: l := by
  match x, y, h with
  | some [a], some l, h => exact ⟨a, l, rfl, rfl, by simpa [consOf] using h.symm⟩
theorem funcOf_some {fn : Fn} {x y : Option (List Value)} {V : List Value} (h : funcOf fn x y = some V) : ∃ a l, x = some a ∧ y = some l ∧ V = [.func fn a.toArray l.toArray] := by
  cases x <;> cases y <;> simp [funcOf] at h
  exact ⟨_, _, rfl, rfl, h.symm⟩
theorem ifaceOf_some {t : TypeId} {x : Option (List Value)} {V : List Value} (h : ifaceOf t x = some V) : ∃ a, x = some [a] ∧ V = [.iface t a] := by
  match x, h with
  | some [a], h => exact ⟨a, rfl, by simpa [ifaceOf] using h.symm⟩

theorem den_mono (h : LM.Le L L') : ∀ (v : AV) (V : List Value), den η L v = some V → den η L' v = some V := by
  intro v
  induction v with
  | cons a l iha ihl =>
    intro V hV
    simp only [den] at hV ⊢
    obtain ⟨x, y, hx, hy, rfl⟩ := consOf_some hV
    rw [iha _ hx, ihl _ hy]; rfl
  | ptr o off =>
    intro V hV
    simp only [den] at hV ⊢
    obtain ⟨b, hb, rfl⟩ := ptrOf_some hV
    rw [get_prefix h hb]; rfl
  | slice o off len cap =>
    intro V hV
    simp only [den] at hV ⊢
    obtain ⟨b, k, hb, hk, rfl⟩ := sliceOf_some hV
    rw [get_prefix h hb]; simp at hk; subst hk; rfl
  | vslice o off len cv k =>
    intro V hV
    simp only [den] at hV ⊢
    obtain ⟨b, c, hb, hc, hle, rfl⟩ := vsliceOf_some hV
    rw [get_prefix h hb, get_prefix h hc]; simp [vsliceOf, hle]
  | eslice o ov cv k =>
    intro V hV
    simp only [den] at hV ⊢
    obtain ⟨b, off, k, hb, ho, hk, rfl⟩ := esliceOf_some hV
    obtain ⟨c, hc, rfl⟩ := Option.map_eq_some_iff.1 hk
    rw [get_prefix h hb, get_prefix h ho, get_prefix h hc]; rfl
  | map o =>
    intro V hV
    simp only [den] at hV ⊢
    cases hb : L[o]? with
    | none => simp [hb] at hV
    | some b => rw [get_prefix h hb]; simpa [hb] using hV
  | yieldf o =>
    intro V hV
    simp only [den] at hV ⊢
    cases hb : L[o]? with
    | none => simp [hb] at hV
    | some b => rw [get_prefix h hb]; simpa [hb] using hV
  | func fn f c ihf ihc =>
    intro V hV
    simp only [den] at hV ⊢
    obtain ⟨x, y, hx, hy, rfl⟩ := funcOf_some hV
    rw [ihf _ hx, ihc _ hy]; rfl
  | iface t v ih =>
    intro V hV
    simp only [den] at hV ⊢
    obtain ⟨x, hx, rfl⟩ := ifaceOf_some hV
    rw [ih _ hx]; rfl
  | agg l ih =>
    intro V hV
    simp only [den] at hV ⊢
    cases hl : den η L l with
    | none => simp [hl] at hV
    | some x => rw [ih _ hl]; simpa [hl] using hV
  | tuple l ih =>
    intro V hV
    simp only [den] at hV ⊢
    cases hl : den η L l with
    | none => simp [hl] at hV
    | some x => rw [ih _ hl]; simpa [hl] using hV
  | _ => intro V hV; simpa only [den] using hV

/-- It stands for one value. -/
def D (η : Nat → Int) (L : LM) (v : AV) (V : Value) : Prop := den η L v = some [V]
/-- It stands for these, one after the other. -/
def DL (η : Nat → Int) (L : LM) (l : AV) (Vs : List Value) : Prop := den η L l = some Vs
theorem D.mono {v : AV} {V : Value} (h : D η L v V) (hL : LM.Le L L') : D η L' v V := den_mono hL _ _ h
theorem DL.mono {v : AV} {V : List Value} (h : DL η L v V) (hL : LM.Le L L') : DL η L' v V := den_mono hL _ _ h
theorem D.inj {v : AV} {V W : Value} (h : D η L v V) (k : D η L v W) : V = W := by
  have := h.symm.trans k; simpa using this
theorem D_cons {a l : AV} {Vs : List Value} (h : DL η L (.cons a l) Vs) : ∃ V Ws, D η L a V ∧ DL η L l Ws ∧ Vs = V :: Ws := consOf_some h
theorem DL_cons {a l : AV} {V : Value} {Vs : List Value} (h : D η L a V) (k : DL η L l Vs) : DL η L (.cons a l) (V :: Vs) := by
  show consOf (den η L a) (den η L l) = _
  rw [h, k]; rfl
theorem DL_nil : DL η L .nil [] := rfl
theorem DL_nil_inv {Vs : List Value} (h : DL η L .nil Vs) : Vs = [] := by simpa [DL, den] using h.symm
theorem D_undef : D η L undefA undef := rfl

/-- Combinators that the kernel goes through without instances. -/
noncomputable def ob {α β : Type} (x : Option α) (f : α → Option β) : Option β := Option.rec none f x
noncomputable def tst {β : Type} (b : Bool) (k : Option β) : Option β := Bool.rec none k b
noncomputable def bcase {β : Type} (b : Bool) (x y : β) : β := Bool.rec y x b
theorem ob_some {α β : Type} {x : Option α} {f : α → Option β} {r : β} (h : ob x f = some r) : ∃ a, x = some a ∧ f a = some r := by
  cases x with
  | none => cases h
  | some a => exact ⟨a, rfl, h⟩
theorem tst_some {β : Type} {b : Bool} {k : Option β} {r : β} (h : tst b k = some r) : b = true ∧ k = some r := by
  cases b with
  | false => cases h
  | true => exact ⟨rfl, h⟩
theorem bcase_true {β : Type} (x y : β) : bcase true x y = x := rfl
theorem bcase_false {β : Type} (x y : β) : bcase false x y = y := rfl

/-- A number, reckoned now. -/
noncomputable def fnat {β : Type} (n : Nat) (k : Nat → β) : β := Nat.rec (k (nat_lit 0)) (fun m _ => k (Nat.succ m)) n
theorem fnat_eq {β : Type} (n : Nat) (k : Nat → β) : fnat n k = k n := by cases n <;> rfl
noncomputable def fint {β : Type} (n : Int) (k : Int → β) : β := Int.rec (fun m => fnat m fun m' => k (Int.ofNat m')) (fun m => fnat m fun m' => k (Int.negSucc m')) n
theorem fint_eq {β : Type} (n : Int) (k : Int → β) : fint n k = k n := by
  cases n with
  | ofNat m => exact fnat_eq m fun m' => k (Int.ofNat m')
  | negSucc m => exact fnat_eq m fun m' => k (Int.negSucc m')
noncomputable def fbool {β : Type} (b : Bool) (k : Bool → β) : β := Bool.rec (k false) (k true) b
theorem fbool_eq {β : Type} (b : Bool) (k : Bool → β) : fbool b k = k b := by cases b <;> rfl
/-- A value, reckoned now. -/
noncomputable def fav {β : Type} (v : AV) (k : AV → β) : β :=
  match v with
  | .int kd n => fint n fun n' => k (.int kd n')
  | .bool b => fbool b fun b' => k (.bool b')
  | .ptr o off => fnat o fun o' => fnat off fun off' => k (.ptr o' off')
  | .yieldf o => fnat o fun o' => k (.yieldf o')
  | .slice o off len cap => fnat o fun o' => fnat off fun off' => fnat len fun len' => fnat cap fun cap' => k (.slice o' off' len' cap')
  | .vslice o off len cv j => fnat o fun o' => fnat off fun off' => fnat len fun len' => fnat cv fun cv' => fnat j fun j' => k (.vslice o' off' len' cv' j')
  | v => k v
theorem fav_eq {β : Type} (v : AV) (k : AV → β) : fav v k = k v := by
  cases v <;> simp only [fav, fint_eq, fbool_eq, fnat_eq]

/-- A value written out. -/
def ofV0 : Value → Option AV
  | .bool b => some (.bool b)
  | .int k n => some (.int k n)
  | .string s => some (.str s)
  | .pointer none => some .nptr
  | .slice none 0 0 => some .nslice
  | .map none => some .nmap
  | .nilFunc => some .nfunc
  | .nilIface => some .niface
  | .func fn ⟨[]⟩ ⟨[]⟩ => some (.func fn .nil .nil)
  | _ => none
noncomputable def ofVs (l : List Value) : Option AV := List.rec (some .nil) (fun v _ ih => ob (ofV0 v) fun a => ob ih fun r => some (.cons a r)) l
noncomputable def ofV : Value → Option AV
  | .agg ⟨l⟩ => ob (ofVs l) fun a => some (.agg a)
  | .tuple ⟨l⟩ => ob (ofVs l) fun a => some (.tuple a)
  | v => ofV0 v
theorem ofV0_den {v : Value} {a : AV} (h : ofV0 v = some a) : D η L a v := by
  unfold ofV0 at h
  split at h <;> first | (cases h; rfl) | cases h
theorem ofVs_den : ∀ {l : List Value} {a : AV}, ofVs l = some a → DL η L a l
  | [], a, h => by cases h; rfl
  | v :: l, a, h => by
    obtain ⟨x, hx, h⟩ := ob_some (h : ob (ofV0 v) (fun a => ob (ofVs l) fun r => some (.cons a r)) = some a)
    obtain ⟨y, hy, h⟩ := ob_some h
    cases h
    exact DL_cons (ofV0_den hx) (ofVs_den hy)
theorem D_agg {a : AV} {l : List Value} (h : DL η L a l) : D η L (.agg a) (.agg l.toArray) := by
  show (den η L a).map _ = _; rw [h]; rfl
theorem D_tuple {a : AV} {l : List Value} (h : DL η L a l) : D η L (.tuple a) (.tuple l.toArray) := by
  show (den η L a).map _ = _; rw [h]; rfl
theorem D_agg_inv {a : AV} {V : Value} (h : D η L (.agg a) V) : ∃ l, DL η L a l ∧ V = .agg l.toArray := by
  have h' : (den η L a).map (fun x => [Value.agg x.toArray]) = some [V] := h
  cases hl : den η L a with
  | none => simp [hl] at h'
  | some l => simp [hl] at h'; exact ⟨l, hl, h'.symm⟩
theorem D_tuple_inv {a : AV} {V : Value} (h : D η L (.tuple a) V) : ∃ l, DL η L a l ∧ V = .tuple l.toArray := by
  have h' : (den η L a).map (fun x => [Value.tuple x.toArray]) = some [V] := h
  cases hl : den η L a with
  | none => simp [hl] at h'
  | some l => simp [hl] at h'; exact ⟨l, hl, h'.symm⟩
theorem ofV_den {v : Value} {a : AV} (h : ofV v = some a) : D η L a v := by
  unfold ofV at h
  split at h
  · obtain ⟨x, hx, h⟩ := ob_some h; cases h; exact D_agg (ofVs_den hx)
  · obtain ⟨x, hx, h⟩ := ob_some h; cases h; exact D_tuple (ofVs_den hx)
  · exact ofV0_den h
end Go.Proofs.YtcjlhjoobchabaaGreatDoor
