/- step.New: an instance of a program that is well. -/
import Derived.Test.YtkkfacgbfjmckaaGreatDoorProg
import Derived.Test.YtkkfacgbfjmckaaGreatDoorFr
import Derived.Test.YtkkfacgbfjmckaaGreatDoorFlow3
namespace Go.Proofs.YtkkfacgbfjmckaaGreatDoor
open Go.RowKit Go.Shelf
set_option maxRecDepth 100000
set_option maxHeartbeats 2000000

def insCells (i : Ins) : List Value := [.int .u8 i.op, .int .u8 i.a, .int .u8 i.b, .int .u8 i.c, .int .u32 i.imm]
def progCells (p : Nat → Ins) : Nat → List Value
  | 0 => []
  | n + 1 => progCells p n ++ insCells (p n)
theorem progCells_length (p : Nat → Ins) (n : Nat) : (progCells p n).length = n * 5 := by
  induction n with
  | zero => rfl
  | succ n ih => simp [progCells, ih, insCells]; omega
theorem progCells_at (p : Nat → Ins) : ∀ (n i k : Nat), i < n → k < 5 → (progCells p n)[i * 5 + k]? = (insCells (p i))[k]? := by
  intro n
  induction n with
  | zero => intro i k h; omega
  | succ n ih =>
    intro i k hi hk
    simp only [progCells]
    by_cases h : i < n
    · rw [List.getElem?_append_left (by rw [progCells_length]; omega)]
      exact ih i k h hk
    · obtain rfl : i = n := by omega
      rw [List.getElem?_append_right (by rw [progCells_length]; omega), progCells_length]
      congr 1
      omega
theorem HasProg.cells {w : World} {b off n : Nat} {p : Nat → Ins} (h : HasProg w b off n p) (j : Nat) (u : Value) (hu : (progCells p n)[j]? = some u) : w.cell? ((⟨b, off, none⟩ : Addr).add j) = some u := by
  have hj : j < n * 5 := by rw [← progCells_length p n]; exact (List.getElem?_eq_some_iff.1 hu).1
  have hadd : (⟨b, off, none⟩ : Addr).add j = ⟨b, off + j, none⟩ := by unfold Addr.add; split <;> simp_all
  rw [hadd]
  have e : j = j / 5 * 5 + j % 5 := by omega
  have hi : j / 5 < n := by omega
  have hk : j % 5 < 5 := by omega
  obtain ⟨c0, c1, c2, c3, c4⟩ := h (j / 5) hi
  rw [e, progCells_at p n _ _ hi hk] at hu
  generalize hq : j / 5 = q at *
  generalize hr : j % 5 = r at *
  have : r = 0 ∨ r = 1 ∨ r = 2 ∨ r = 3 ∨ r = 4 := by omega
  rw [e]
  rcases this with rfl | rfl | rfl | rfl | rfl <;> simp only [insCells, List.getElem?_cons_zero, List.getElem?_cons_succ, Option.some.injEq] at hu <;> subst hu
  · exact c0
  · exact c1
  · exact c2
  · exact c3
  · exact c4
theorem hasProg_of_row {w : World} {g n : Nat} {cur : Array Value} {t : TypeId} {p : Nat → Ins} (h : w.heap[g]? = some (.cells cur t (0, 0))) (ht : cur.toList.take (n * 5) = progCells p n) : HasProg w g 0 n p := by
  have key : ∀ i k, i < n → k < 5 → w.cell? ⟨g, 0 + i * 5 + k, none⟩ = (insCells (p i))[k]? := by
    intro i k hi hk
    rw [cell_of_heap h, ← progCells_at p n i k hi hk, ← ht, List.getElem?_take_of_lt (by omega)]
    simp
  intro i hi
  exact ⟨key i 0 hi (by omega), key i 1 hi (by omega), key i 2 hi (by omega), key i 3 hi (by omega), key i 4 hi (by omega)⟩
theorem progCells_one (p : Nat → Ins) (n : Nat) : ∀ u ∈ progCells p n, u.oneCell' = true := by
  induction n with
  | zero => simp [progCells]
  | succ n ih =>
    intro u hu
    simp only [progCells, List.mem_append] at hu
    rcases hu with hu | hu
    · exact ih u hu
    · simp only [insCells, List.mem_cons, List.not_mem_nil, or_false] at hu
      rcases hu with rfl | rfl | rfl | rfl | rfl <;> rfl

/-- An instance's cells. -/
def instCells (sv : Value) (r s : Nat → Int) (pc who : Int) (g : Bool) : Array Value :=
  #[sv, .int .u64 (r 0), .int .u64 (r 1), .int .u64 (r 2), .int .u64 (r 3), .int .u64 (r 4), .int .u64 (r 5), .int .u64 (r 6), .int .u64 (r 7), .int .u64 (r 8), .int .u64 (r 9),
    .int .u64 (s 0), .int .u64 (s 1), .int .u64 (s 2), .int .u64 (s 3), .int .u64 (s 4), .int .u64 (s 5), .int .u64 (s 6), .int .u64 (s 7), .int .i64 pc, .int .i64 who, .bool g]

structure InstAt (w : World) (bi bp cap n : Nat) (p : Nat → Ins) (r s : Nat → Int) (pc who : Int) (g : Bool) : Prop where
  block : w.heap[bi]? = some (.cells (instCells (.slice (some ⟨bp, 0, none⟩) n cap) r s pc who g) 70 (0, 0))
  prog : HasProg w bp 0 n p
  lt : bp < w.heap.size
  ne : bp ≠ bi

theorem info_insn : (Tryz.prog.info? 28).map (fun i => (i.zero, i.size, i.bytes)) = some (some (.agg #[.int .u8 0, .int .u8 0, .int .u8 0, .int .u8 0, .int .u32 0]), 5, 8) := by kernel_rfl

theorem stepNew_yes (b off n cap : Nat) (p : Nat → Ins) (who arg : Int) (w : World) (hp : HasProg w b off n p) (hok : ∀ i, i < n → (p i).ok) (hb : b < w.heap.size) (hn1 : 1 ≤ n) (hn : n ≤ 128) (h0 : 0 ≤ who) (h1 : who < 8) (hf : (flowCheck p n).2 = 0) :
    Calls Tryz.prog 8 #[.slice (some ⟨b, off, none⟩) n cap, .int .i64 who, .int .u64 arg] w fun e w' => ∃ bi bp cap', e = .returned (.tuple #[.pointer (some ⟨bi, 0, none⟩), .int .i64 0]) ∧
      InstAt w' bi bp cap' n p (fun i => if i = 1 then arg else 0) (fun _ => 0) 0 who true ∧ Below w.heap.size w w' ∧ w.heap.size ≤ bi ∧ w.heap.size ≤ bp := by
  obtain ⟨i0, hi, hz0, hz1, hz2⟩ := info_parts info_insn
  have hfc := fun w hp hb => flowCheck_any b off n cap p w hp hok hb
  obtain ⟨fpc, hfp⟩ : ∃ fpc, (flowCheck p n).1 = fpc := ⟨_, rfl⟩
  simp only [hf, hfp] at hfc
  have HFC := Lib.hid hfc
  have HP := Lib.hid hp
  clear hfc hp hok hf hfp
  go_enter Tryz.func8, Tryz.ntmps8
  go_wp2_with (first
    | (go_at_call 18; refine (HFC.out _ HP.out hb).mono ?_; rintro e w1 ⟨rfl, hb1⟩; have hbn : b ≠ w1.heap.size := (by have := hb1.size; omega); have HHP : Hid (HasProg (w1.alloc (.cells #[] 28)) b off n p) := HP.out.same (fun o => (World.cell?_alloc_old (a := ⟨b, o, none⟩) _ _ hbn).trans (hb1.cell (p := ⟨b, o, none⟩) hb)))
    | (at_builtin; refine wpList_append_own _ rfl (.tmp 25) (.tmp 26) 29 rfl w1.heap.size 28 i0 (.agg #[.int .u8 0, .int .u8 0, .int .u8 0, .int .u8 0, .int .u32 0]) 5 8 Tryz.underlying29 hi hz0 hz1 hz2 rfl (by decide) _ 0 [] rfl ⟨rfl, .inr ⟨_, _, _, rfl, Nat.le_refl _, heap_alloc_at _, Nat.le_refl _, by simp [maxLen], by simp, by simp⟩⟩ ⟨b, off, none⟩ n cap (progCells p n) rfl (progCells_length p n) HHP.out.cells (progCells_one p n) (by simp [maxLen]; omega) (by omega) (by simp) ?_; intro v' w2 ho hg hnil; simp only [Nat.zero_add, List.nil_append] at ho; rcases ho.2 with ⟨_, hz⟩ | ⟨g, cap', cur, rfl, hgb, hgh, hgn, hgm, hgs, hgt⟩; (exfalso; omega); clear hnil ho))
  go_ret2
  have hg2 : w2.heap.size ≥ w1.heap.size + 1 := by have := hg.size; simpa using this
  have hB2 : Below w1.heap.size w1 w2 := ((Below.refl _ _).alloc (Nat.le_refl _) _).grown hg (by simp) (fun k e => by cases e; exact Nat.le_refl _)
  have hgl : g < w2.heap.size := lt_of_heap hgh
  refine ⟨w2.heap.size, g, cap', rfl, ⟨?_, ?_, ?_, ?_⟩, ?_, ?_, ?_⟩
  · exact heap_alloc_at _
  · exact (hasProg_of_row hgh hgt).same (fun o => World.cell?_alloc_old (a := ⟨g, o, none⟩) _ _ (by simp; omega))
  · simp; omega
  · omega
  · exact (hb1.trans (hB2.mono hb1.size)).alloc (by have := hb1.size; omega) _
  · have := hb1.size; omega
  · have := hb1.size; omega
end Go.Proofs.YtkkfacgbfjmckaaGreatDoor
