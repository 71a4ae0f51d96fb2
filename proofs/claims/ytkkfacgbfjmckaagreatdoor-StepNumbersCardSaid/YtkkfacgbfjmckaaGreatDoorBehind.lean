/- flow.behind: what stands behind an instruction, as an iterator: its contract. -/
import Derived.RangeFuncNested
import Derived.RangeFuncBound
import Derived.RangeFuncCalls
import Derived.RangeFuncLeaves
import Derived.RangeFuncFrom
import Derived.Shelf.Abstract
import Derived.Shelf.RegionOpen
import Derived.WalkKit
import Derived.OwnWalkIn
import Derived.TacticsInMore
import Derived.LoopNIn
import Derived.LoopIn
import Derived.Test.YtkkfacgbfjmckaaGreatDoorProg
import Derived.Test.YtkkfacgbfjmckaaGreatDoorFr
namespace Go.Proofs.YtkkfacgbfjmckaaGreatDoor
open Go.RowKit Go.Shelf
attribute [local go_sem] Oper.semAt_some
set_option maxRecDepth 100000
set_option maxHeartbeats 2000000

/-- What stands behind an instruction, by its operation, its place, its Imm. -/
def bl (op pc imm : Int) : List Int :=
  if op = 15 then [] else if op = 5 then [pc + imm] else if op = 6 ∨ op = 7 then (if pc + imm = pc + 1 then [pc + 1] else [pc + 1, pc + imm]) else [pc + 1]

/-- One cell is as it was. -/
def KeepC (B : Nat) (W W' : World) : Prop := W'.cell? ⟨B, 0, none⟩ = W.cell? ⟨B, 0, none⟩

theorem behind_any (v : Value) (pc : Int) (hv : v.oneCell' = true) (w : World) : Calls Tryz.prog 35 #[v, .int .i64 pc] w fun e w' =>
    e = .returned (.func (.func 61) #[] #[.pointer (some ⟨w.heap.size + 1, 0, none⟩), .pointer (some ⟨w.heap.size, 0, none⟩)]) ∧
    (w.alloc (.cells #[v] 29)).alloc (.cells #[.int .i64 pc] 3) = w' := by
  cases v <;> simp [Value.oneCell'] at hv
  all_goals
    go_enter Tryz.func35, Tryz.ntmps35
    go_wp2
    go_ret
    exact ⟨rfl, rfl⟩

theorem behind1_in (F : Fence) (n : Nat) (hF : F.fn 61) (hro : F.round = none) (hn : 1 ≤ n) (l Bp Bc b off len cap pc : Nat) (op ia ib ic imm : Int)
    (hpl : pc < len) (hpc : pc ≤ 1000000) (i0 : 0 ≤ imm) (i1 : imm ≤ 4294967295) (Px : Int → Prop) (hPx : ∀ x ∈ bl op pc imm, Px x) (J Jx : List Int → World → Prop)
    (hY : ∀ pre x W, Px x → J pre W → pre.length < 2 → YieldAt F (n - 1) Tryz.prog l #[.int .i64 x] W fun e W' =>
      (e = .returned (.bool true) ∧ J (pre ++ [x]) W' ∧ KeepC Bc W W') ∨ (e = .returned (.bool false) ∧ Jx (pre ++ [x]) W'))
    (W : World) (hJ : AbidesFrom W.heap.size J) (_hBpW : Bp < W.heap.size) (hBcW : Bc < W.heap.size)
    (hBp : W.cell? ⟨Bp, 0, none⟩ = some (.slice (some ⟨b, off, none⟩) len cap)) (hBc : W.cell? ⟨Bc, 0, none⟩ = some (.int .i64 pc))
    (c0 : W.cell? ⟨b, off + pc * 5, none⟩ = some (.int .u8 op)) (c1 : W.cell? ⟨b, off + pc * 5 + 1, none⟩ = some (.int .u8 ia)) (c2 : W.cell? ⟨b, off + pc * 5 + 2, none⟩ = some (.int .u8 ib))
    (c3 : W.cell? ⟨b, off + pc * 5 + 3, none⟩ = some (.int .u8 ic)) (c4 : W.cell? ⟨b, off + pc * 5 + 4, none⟩ = some (.int .u32 imm)) (h0 : J [] W) :
    CallsIn F n Tryz.prog 61 #[.func (.yield l) #[] #[], .pointer (some ⟨Bc, 0, none⟩), .pointer (some ⟨Bp, 0, none⟩)] W fun e W' => (∃ v, e = .returned v) ∧
      ((∃ ys, ys = bl op pc imm ∧ J ys W') ∨ (∃ pre, pre <+: bl op pc imm ∧ Jx pre W')) := by
  have hJ1 : J [] (W.alloc (.cells #[.int .u8 op, .int .u8 ia, .int .u8 ib, .int .u8 ic, .int .u32 imm] 28)) :=
    hJ [] W _ none h0 (World.grownBy_alloc W _ none) (fun r e => by cases e)
  have hpl' : (pc : Int) < len := by omega
  by_cases e15 : op = 15
  · subst e15
    refine callsIn_of_wp Tryz.func61 rfl hF ?_ hro
    simp only [Tryz.ntmps61, List.size_toArray, List.length_cons, List.length_nil, Nat.reduceAdd, Nat.reduceSub, Array.replicate_succ, Array.replicate_zero, List.push_toArray, List.append_toArray, List.nil_append, List.cons_append]
    gi_wp2
    refine bodyPost_ret (results_none rfl _ _ _) rfl ?_
    exact ⟨⟨_, rfl⟩, .inl ⟨_, rfl, h0⟩⟩
  have f15 : (op == 15) = false := by simpa using e15
  by_cases e5 : op = 5
  · subst e5
    obtain ⟨fn, tmps, assign, body, hy, hR⟩ := hY [] (pc + imm) _ (hPx _ (by simp [bl])) hJ1 (by simp)
    refine callsIn_of_wp Tryz.func61 rfl hF ?_ hro
    simp only [Tryz.ntmps61, List.size_toArray, List.length_cons, List.length_nil, Nat.reduceAdd, Nat.reduceSub, Array.replicate_succ, Array.replicate_zero, List.push_toArray, List.append_toArray, List.nil_append, List.cons_append]
    gi_wp2
    refine hR.mono ?_
    rintro e W3 (⟨rfl, hJ3, hk3⟩ | ⟨rfl, hJx3⟩)
    · gi_wp2
      go_end0
      exact ⟨⟨_, rfl⟩, .inl ⟨_, by simp [bl], hJ3⟩⟩
    · gi_wp2
      go_end0
      exact ⟨⟨_, rfl⟩, .inr ⟨_, by simp [bl], hJx3⟩⟩
  have f5 : (op == 5) = false := by simpa using e5
  by_cases e67 : op = 6 ∨ op = 7
  · have hbl : bl op pc imm = if (pc : Int) + imm = pc + 1 then [(pc : Int) + 1] else [(pc : Int) + 1, pc + imm] := by
      unfold bl; rw [if_neg e15, if_neg e5, if_pos e67]
    have HB := Lib.hid hbl
    clear hbl e15 e5
    by_cases eon : (pc : Int) + imm = pc + 1
    · have hP1 : Px ((pc : Int) + 1) := hPx _ (by rw [HB.out, if_pos eon]; simp)
      clear hPx
      have HE := Lib.hid eon
      have feon : ((pc : Int) + imm != pc + 1) = false := by simpa using eon
      clear eon
      obtain ⟨fn, tmps, assign, body, hy, hR⟩ := hY [] (pc + 1) _ hP1 hJ1 (by simp)
      rcases e67 with rfl | rfl
      all_goals
        refine callsIn_of_wp Tryz.func61 rfl hF ?_ hro
        simp only [Tryz.ntmps61, List.size_toArray, List.length_cons, List.length_nil, Nat.reduceAdd, Nat.reduceSub, Array.replicate_succ, Array.replicate_zero, List.push_toArray, List.append_toArray, List.nil_append, List.cons_append]
        gi_wp2
        refine hR.mono ?_
        rintro e W3 (⟨rfl, hJ3, hk3⟩ | ⟨rfl, hJx3⟩)
        · have hBc3 : W3.cell? ⟨Bc, 0, none⟩ = some (.int .i64 pc) := Eq.trans hk3 (by rw [World.cell?_alloc_lt]; exact hBc; exact hBcW)
          gi_wp2
          go_end0
          exact ⟨⟨_, rfl⟩, .inl ⟨_, by rw [HB.out, if_pos HE.out]; simp, hJ3⟩⟩
        · gi_wp2
          go_end0
          exact ⟨⟨_, rfl⟩, .inr ⟨_, by rw [HB.out, if_pos HE.out]; simp, hJx3⟩⟩
    · have hP1 : Px ((pc : Int) + 1) := hPx _ (by rw [HB.out, if_neg eon]; simp)
      have hP2 : Px ((pc : Int) + imm) := hPx _ (by rw [HB.out, if_neg eon]; simp)
      clear hPx
      have HE := Lib.hid eon
      have feon : ((pc : Int) + imm != pc + 1) = true := by simpa using eon
      clear eon
      obtain ⟨fn, tmps, assign, body, hy, hR⟩ := hY [] (pc + 1) _ hP1 hJ1 (by simp)
      rcases e67 with rfl | rfl
      all_goals
        refine callsIn_of_wp Tryz.func61 rfl hF ?_ hro
        simp only [Tryz.ntmps61, List.size_toArray, List.length_cons, List.length_nil, Nat.reduceAdd, Nat.reduceSub, Array.replicate_succ, Array.replicate_zero, List.push_toArray, List.append_toArray, List.nil_append, List.cons_append]
        gi_wp2
        refine hR.mono ?_
        rintro e W3 (⟨rfl, hJ3, hk3⟩ | ⟨rfl, hJx3⟩)
        · have hBc3 : W3.cell? ⟨Bc, 0, none⟩ = some (.int .i64 pc) := Eq.trans hk3 (by rw [World.cell?_alloc_lt]; exact hBc; exact hBcW)
          obtain ⟨fn2, tmps2, assign2, body2, hy2, hR2⟩ := hY _ (pc + imm) _ hP2 hJ3 (by simp)
          gi_wp2
          refine hR2.mono ?_
          rintro e W4 (⟨rfl, hJ4, hk4⟩ | ⟨rfl, hJx4⟩)
          · gi_wp2
            go_end0
            exact ⟨⟨_, rfl⟩, .inl ⟨_, by rw [HB.out, if_neg HE.out]; simp, hJ4⟩⟩
          · gi_wp2
            go_end0
            exact ⟨⟨_, rfl⟩, .inr ⟨_, by rw [HB.out, if_neg HE.out]; simp, hJx4⟩⟩
        · gi_wp2
          go_end0
          exact ⟨⟨_, rfl⟩, .inr ⟨_, by rw [HB.out, if_neg HE.out]; simp, hJx3⟩⟩
  · have hbl : bl op pc imm = [(pc : Int) + 1] := by
      unfold bl; rw [if_neg e15, if_neg e5, if_neg e67]
    have f6 : (op == 6) = false := by simp; omega
    have f7 : (op == 7) = false := by simp; omega
    have hP1 : Px ((pc : Int) + 1) := hPx _ (by rw [hbl]; simp)
    have HB := Lib.hid hbl
    clear hbl e15 e5 e67 hPx
    obtain ⟨fn, tmps, assign, body, hy, hR⟩ := hY [] (pc + 1) _ hP1 hJ1 (by simp)
    refine callsIn_of_wp Tryz.func61 rfl hF ?_ hro
    simp only [Tryz.ntmps61, List.size_toArray, List.length_cons, List.length_nil, Nat.reduceAdd, Nat.reduceSub, Array.replicate_succ, Array.replicate_zero, List.push_toArray, List.append_toArray, List.nil_append, List.cons_append]
    gi_wp2
    refine hR.mono ?_
    rintro e W3 (⟨rfl, hJ3, hk3⟩ | ⟨rfl, hJx3⟩)
    · gi_wp2
      go_end0
      exact ⟨⟨_, rfl⟩, .inl ⟨_, by rw [HB.out]; simp, hJ3⟩⟩
    · gi_wp2
      go_end0
      exact ⟨⟨_, rfl⟩, .inr ⟨_, by rw [HB.out]; simp, hJx3⟩⟩

/-- The contract that a loop over it asks for: each number that comes meets Px. -/
theorem behind_stops (F : Fence) (n : Nat) (hF : F.fn 61) (hro : F.round = none) (hn : 1 ≤ n) (Bp Bc b off len cap pc : Nat) (op ia ib ic imm : Int)
    (hpl : pc < len) (hpc : pc ≤ 1000000) (i0 : 0 ≤ imm) (i1 : imm ≤ 4294967295) (Px : Int → Prop) (hPx : ∀ x ∈ bl op pc imm, Px x) (w0 : World) (hBp : w0.cell? ⟨Bp, 0, none⟩ = some (.slice (some ⟨b, off, none⟩) len cap)) (hBc : w0.cell? ⟨Bc, 0, none⟩ = some (.int .i64 pc))
    (c0 : w0.cell? ⟨b, off + pc * 5, none⟩ = some (.int .u8 op)) (c1 : w0.cell? ⟨b, off + pc * 5 + 1, none⟩ = some (.int .u8 ia)) (c2 : w0.cell? ⟨b, off + pc * 5 + 2, none⟩ = some (.int .u8 ib))
    (c3 : w0.cell? ⟨b, off + pc * 5 + 3, none⟩ = some (.int .u8 ic)) (c4 : w0.cell? ⟨b, off + pc * 5 + 4, none⟩ = some (.int .u32 imm)) :
    SeqStopsK F n Tryz.prog 61 #[.pointer (some ⟨Bc, 0, none⟩), .pointer (some ⟨Bp, 0, none⟩)] (fun x : { x : Int // Px x } => #[.int .i64 x.1]) (KeepC Bc)
      (fun xs => xs.map (·.1) = bl op pc imm) (fun xs => xs.map (·.1) <+: bl op pc imm) 2 w0 := by
  intro l J Jx W hW hJ hJx hY h0
  have hlt : ∀ {a : Addr} {v : Value}, w0.cell? a = some v → a.block < w0.heap.size := fun h => block_lt_of_cell h
  have hc : ∀ {a : Addr} {v : Value}, w0.cell? a = some v → W.cell? a = some v := fun h => (hW.cell (hlt h)).trans h
  refine CallsIn.mono (behind1_in F n hF hro hn l Bp Bc b off len cap pc op ia ib ic imm hpl hpc i0 i1 Px hPx (fun xs W => ∃ ys : List { x : Int // Px x }, ys.map (·.1) = xs ∧ J ys W) (fun xs W => ∃ ys : List { x : Int // Px x }, ys.map (·.1) = xs ∧ Jx ys W) ?_
    W ?_ (Nat.lt_of_lt_of_le (hlt hBp) hW.size) (Nat.lt_of_lt_of_le (hlt hBc) hW.size) (hc hBp) (hc hBc) (hc c0) (hc c1) (hc c2) (hc c3) (hc c4) ⟨[], rfl, h0⟩) ?_
  · rintro pre x W1 hx ⟨ys, rfl, hj⟩ hl
    refine (hY ys ⟨x, hx⟩ W1 hj (by simpa using hl)).mono ?_
    rintro e W' (⟨rfl, h1, h2⟩ | ⟨rfl, h1⟩)
    · exact .inl ⟨rfl, ⟨_, by simp, h1⟩, h2⟩
    · exact .inr ⟨rfl, ⟨_, by simp, h1⟩⟩
  · rintro s A B row ⟨ys, rfl, hj⟩ hg hr
    exact ⟨ys, rfl, hJ ys A B row hj hg hr⟩
  · rintro e W' ⟨hv, h⟩
    refine ⟨hv, ?_⟩
    rcases h with ⟨ys, rfl, zs, hz, hj⟩ | ⟨pre, hp, zs, rfl, hj⟩
    · exact .inl ⟨zs, hz, hj⟩
    · exact .inr ⟨zs, hp, hj⟩
end Go.Proofs.YtkkfacgbfjmckaaGreatDoor
