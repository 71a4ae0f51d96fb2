/- flow.Check, first part: programs in memory, what Check answers, marks left behind by loops over iterators. -/
import Derived.Test.YtkkfacgbfjmckaaGreatDoorProg
import Derived.Test.YtkkfacgbfjmckaaGreatDoorFr
import Derived.Test.YtkkfacgbfjmckaaGreatDoorBehind
import Derived.Test.YtkkfacgbfjmckaaGreatDoorInsn3
namespace Go.Proofs.YtkkfacgbfjmckaaGreatDoor
open Go.RowKit Go.Shelf
set_option maxRecDepth 100000
set_option maxHeartbeats 2000000

/-- An instruction's numbers. -/
structure Ins where
  op : Int
  a : Int
  b : Int
  c : Int
  imm : Int

def Ins.ok (i : Ins) : Prop := (0 ≤ i.op ∧ i.op ≤ 255) ∧ (0 ≤ i.a ∧ i.a ≤ 255) ∧ (0 ≤ i.b ∧ i.b ≤ 255) ∧ (0 ≤ i.c ∧ i.c ≤ 255) ∧ (0 ≤ i.imm ∧ i.imm ≤ 4294967295)

/-- A program's instructions lie in a block, one behind the other. -/
def HasProg (w : World) (b off n : Nat) (p : Nat → Ins) : Prop := ∀ i, i < n →
  w.cell? ⟨b, off + i * 5, none⟩ = some (.int .u8 (p i).op) ∧ w.cell? ⟨b, off + i * 5 + 1, none⟩ = some (.int .u8 (p i).a) ∧ w.cell? ⟨b, off + i * 5 + 2, none⟩ = some (.int .u8 (p i).b) ∧
  w.cell? ⟨b, off + i * 5 + 3, none⟩ = some (.int .u8 (p i).c) ∧ w.cell? ⟨b, off + i * 5 + 4, none⟩ = some (.int .u32 (p i).imm)

theorem HasProg.same {w w' : World} {b off n : Nat} {p : Nat → Ins} (h : HasProg w b off n p) (hw : ∀ o, w'.cell? ⟨b, o, none⟩ = w.cell? ⟨b, o, none⟩) : HasProg w' b off n p :=
  fun i hi => by simp only [hw]; exact h i hi

def Ins.bad (i : Ins) : Int := insnBad i.op i.a i.b i.c i.imm
def Ins.on (i : Ins) (pc : Nat) : List Int := bl i.op pc i.imm

def flowGo (p : Nat → Ins) (n : Nat) : Nat → Nat → (Nat → Bool) → Int × Int
  | 0, _, _ => (0, 0)
  | f + 1, pc, R =>
    if (p pc).bad ≠ 0 then (pc, (p pc).bad)
    else cond (R pc) (cond (((p pc).on pc).any (fun x => decide ((n : Int) ≤ x))) (pc, 10)
      (flowGo p n f (pc + 1) (fun i => R i || ((p pc).on pc).any (fun x => x == (i : Int))))) (pc, 10)

def flowCheck (p : Nat → Ins) (n : Nat) : Int × Int := if n = 0 ∨ 128 < n then (0, 11) else flowGo p n n 0 (fun i => i == 0)

/-- A mark: the deferred calls of a loop over an iterator, none of them. -/
def mark (D : Nat) : Deferred := { target := .collected D, args := #[] }

theorem leaves_marks {F : Fence} {n : Nat} {P : Program} {fn : Func} {tmps : Array Value} {R : Ending → World → Prop} :
    ∀ (Ds : List Nat) (w : World), Ds.Nodup → (∀ D ∈ Ds, w.heap[D]? = some (.deferred (some []))) →
    (∀ w', w'.os = w.os → w'.tape = w.tape → w'.output = w.output → w'.heap.size = w.heap.size → (∀ k, k ∉ Ds → w'.heap[k]? = w.heap[k]?) →
      ∃ v, (results fn tmps).run P w' = .ok v w' ∧ R (.returned v) w') →
    LeavesInM F n P fn tmps R (Ds.map mark) .returning w
  | [], w, _, _, h => by
    obtain ⟨v, hv, hR⟩ := h w rfl rfl rfl rfl (fun _ _ => rfl)
    exact ⟨v, hv, hR⟩
  | D :: Ds, w, hnd, hD, h => by
    refine ⟨by simp, .inl ⟨D, _, rfl, run_takeDeferred (hD D (by simp)), ?_⟩⟩
    obtain ⟨hn1, hn2⟩ := List.nodup_cons.1 hnd
    have hlt : D < w.heap.size := (Array.getElem?_eq_some_iff.1 (hD D (by simp))).1
    refine leaves_marks Ds _ hn2 (fun E hE => ?_) (fun w' ho ht hu hs hk => h w' ho ht hu (by rw [hs]; simp [World.putObj]) (fun k hkn => ?_))
    · rw [World.putObj_heap_other (by intro e; subst e; exact hn1 hE)]
      exact hD E (by simp [hE])
    · rw [hk k (by simp at hkn; exact hkn.2)]
      exact World.putObj_heap_other (by simp at hkn; exact hkn.1)
#print axioms leaves_marks
end Go.Proofs.YtkkfacgbfjmckaaGreatDoor
