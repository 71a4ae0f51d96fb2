/- flow.Check: the walk. -/
import Derived.Test.YtkkfacgbfjmckaaGreatDoorProg
import Derived.Test.YtkkfacgbfjmckaaGreatDoorFr
import Derived.Test.YtkkfacgbfjmckaaGreatDoorBehind
import Derived.Test.YtkkfacgbfjmckaaGreatDoorInsn4
import Derived.Test.YtkkfacgbfjmckaaGreatDoorFlow
namespace Go.Proofs.YtkkfacgbfjmckaaGreatDoor
open Go.RowKit Go.Shelf
attribute [local go_sem] Oper.semAt_some
set_option maxRecDepth 100000
set_option maxHeartbeats 4000000

/-- What a round of the loop over the program begins with. N: the heap's size when the call began; wB: the world when the loop began. -/
def FI (wB : World) (N b off n cap : Nat) (d : Bool) (p : Nat → Ins) (a : Act) (W : World) : Prop := ∃ (pc : Nat) (Ds : List Nat) (R : Nat → Bool) (C : Array Value) (x5 x6 x7 x8 x21 x22 x23 x24 x25 x26 x27 x28 x29 x30 x31 x32 x33 x34 x35 x36 x37 x38 x39 x40 x41 x42 x43 x44 x45 x46 x47 : Value),
  a = { tmps := #[.slice (some ⟨b, off, none⟩) n cap, .pointer (some ⟨N, 0, none⟩), .pointer (some ⟨N + 1, 0, none⟩), .pointer (some ⟨N + 1 + 1, 0, none⟩), .pointer (some ⟨N + 1 + 1 + 1, 0, none⟩), x5, x6, x7, x8, .slice (some ⟨b, off, none⟩) n cap, .int .i64 n, .bool false, .bool false, .slice (some ⟨b, off, none⟩) n cap, .int .i64 n, .bool d, .bool d, .pointer (some ⟨N + 1 + 1 + 1, 0, none⟩), .slice (some ⟨b, off, none⟩) n cap, .int .i64 n, .int .i64 pc, x21, x22, x23, x24, x25, x26, x27, x28, x29, x30, x31, x32, x33, x34, x35, x36, x37, x38, x39, x40, x41, x42, x43, x44, x45, x46, x47], defers := Ds.map mark } ∧ pc ≤ n ∧ flowGo p n n 0 (fun i => i == 0) = flowGo p n (n - pc) pc R ∧
  Kept (fun k => k = N + 1 ∨ k = N + 1 + 1 ∨ k = N + 1 + 1 + 1) wB W ∧ W.heap[N + 1 + 1 + 1]? = some (.cells C 107 (0, 0)) ∧ C.size = 128 ∧ (∀ i, i < 128 → C[i]? = some (.bool (R i))) ∧
  W.heap[N + 1]? = some (.cells #[.int .i64 0] 3 (0, 0)) ∧ W.heap[N + 1 + 1]? = some (.cells #[.int .i64 0] 31 (0, 0)) ∧
  Ds.Nodup ∧ (∀ D ∈ Ds, N + 4 ≤ D ∧ W.heap[D]? = some (.deferred (some [])))

theorem zero107 : Tryz.zeroCells107 = ⟨List.replicate 128 (.bool false)⟩ := by kernel_rfl

/-- The way out: the results' cells, and the marks. -/
theorem leave_flow {n N : Nat} {w W : World} {Ds : List Nat} {tmps : Array Value} {v1 v2 r1 r2 : Int} (hN : N = w.heap.size) (h2 : tmps[2]?.getD undef = .pointer (some ⟨N + 1, 0, none⟩)) (h3 : tmps[3]?.getD undef = .pointer (some ⟨N + 1 + 1, 0, none⟩))
    (hB : Below N w W) (hnd : Ds.Nodup) (hD : ∀ D ∈ Ds, N + 4 ≤ D ∧ W.heap[D]? = some (.deferred (some []))) (c1 : W.heap[N + 1]? = some (.cells #[.int .i64 v1] 3 (0, 0))) (c2 : W.heap[N + 1 + 1]? = some (.cells #[.int .i64 v2] 31 (0, 0)))
    (e1 : v1 = r1) (e2 : v2 = r2) :
    LeavesInM Fence.wide n Tryz.prog Tryz.f18 tmps (fun e w' => e = .returned (.tuple #[.int .i64 r1, .int .i64 r2]) ∧ Below w.heap.size w w') (Ds.map mark) .returning W := by
  subst e1; subst e2; subst hN
  refine leaves_marks Ds W hnd (fun D h => (hD D h).2) (fun w' ho ht hu hs hk => ?_)
  have k1 : w'.heap[w.heap.size + 1]? = some (.cells #[.int .i64 v1] 3 (0, 0)) := (hk _ (fun h => by have := (hD _ h).1; omega)).trans c1
  have k2 : w'.heap[w.heap.size + 1 + 1]? = some (.cells #[.int .i64 v2] 31 (0, 0)) := (hk _ (fun h => by have := (hD _ h).1; omega)).trans c2
  have q1 : w'.cell? ⟨w.heap.size + 1, 0, none⟩ = some (.int .i64 v1) := cell_of_heap k1
  have q2 : w'.cell? ⟨w.heap.size + 1 + 1, 0, none⟩ = some (.int .i64 v2) := cell_of_heap k2
  refine ⟨.tuple #[.int .i64 v1, .int .i64 v2], ?_, rfl, ?_⟩
  · simp [results, Tryz.results18, go_sem, h2, h3, q1, q2]
  · exact ⟨ho.trans hB.os, ht.trans hB.tape, hu.trans hB.output, by rw [hs]; exact hB.size, fun k hkl => (hk k (fun h => by have := (hD _ h).1; omega)).trans (hB.block k hkl)⟩

/-- What a turn of blocks from n on leaves. -/
theorem grown_heap {A B : World} {row : Option Nat} {n k : Nat} {o : Obj} {Z : Nat → Prop} (hg : A.grownBy B row) (hr : ∀ r, row = some r → n ≤ r ∧ Z r) (hk : k < n) (h : A.heap[k]? = some o) : B.heap[k]? = some o :=
  (hg.block k (lt_of_heap h) (fun e => by have := (hr k e.symm).1; omega)).trans h
theorem Kept.grown {S : Nat → Prop} {w A B : World} {row : Option Nat} {Z : Nat → Prop} (hk : Kept S w A) (hg : A.grownBy B row) (hr : ∀ r, row = some r → w.heap.size ≤ r ∧ Z r) : Kept S w B :=
  ⟨hg.os.trans hk.os, hg.tape.trans hk.tape, hg.output.trans hk.output, Nat.le_trans hk.size hg.size,
   fun i hi hs => (hg.block i (Nat.lt_of_lt_of_le hi hk.size) (fun e => by have := (hr i e.symm).1; omega)).trans (hk.block i hi hs)⟩
theorem keepC_t {B : Nat} {X Y Z : World} (h : KeepC B X Y) (k : KeepC B Y Z) : KeepC B X Z := Eq.trans k h
theorem keepC_b {B : Nat} {w : World} (hB : B < w.heap.size) (W : World) (l : Nat) (o o' : Obj) (hl : w.heap.size ≤ l) (_ : W.heap[l]? = some o) (_ : o.isCells = false) (_ : o.isWalk = false) : KeepC B W (W.putObj l o') :=
  World.cell?_of_block (w := W) (World.putObj_heap_other (show B ≠ l by omega))

theorem rep_set {m : Nat} (hm : 0 < m) (i : Nat) (hi : i < m) : ((⟨List.replicate m (.bool false)⟩ : Array Value).setIfInBounds 0 (.bool true))[i]? = some (.bool (i == 0)) := by
  rw [Array.getElem?_setIfInBounds]
  by_cases h : i = 0
  · subst h; simp [hm]
  · have h' : ¬ 0 = i := by omega
    simp [h, h', hi]

theorem flowCheck_yes (b off n cap : Nat) (p : Nat → Ins) (w : World) (hn0 : 1 ≤ n) (hn1 : n ≤ 128) (hp : HasProg w b off n p) (hok : ∀ i, i < n → (p i).ok) (hb : b < w.heap.size) :
    Calls Tryz.prog 18 #[.slice (some ⟨b, off, none⟩) n cap] w fun e w' => e = .returned (.tuple #[.int .i64 (flowGo p n n 0 (fun i => i == 0)).1, .int .i64 (flowGo p n n 0 (fun i => i == 0)).2]) ∧ Below w.heap.size w w' := by
  have hn : ((n : Int) == 0) = false := by simp; omega
  refine (callsIn_wide (n := 5)).1 ?_
  refine callsIn_of_wp_marks Tryz.func18 rfl trivial ?_
  simp only [Tryz.ntmps18, List.size_toArray, List.length_cons, List.length_nil, Nat.reduceAdd, Nat.reduceSub, Array.replicate_succ, Array.replicate_zero, List.push_toArray, List.append_toArray, List.nil_append, List.cons_append]
  have HP := Lib.hid hp
  have HK := Lib.hid hok
  clear hp hok
  gi_wp2
  obtain ⟨wB, hwB⟩ : ∃ wB, (((w.alloc (.cells #[.slice (some ⟨b, off, none⟩) n cap] 29)).alloc (.cells #[.int .i64 0] 3)).alloc (.cells #[.int .i64 0] 31)).alloc
      (.cells (Tryz.zeroCells107.setIfInBounds 0 (.bool true)) 107) = wB := ⟨_, rfl⟩
  rw [hwB]
  have hsB : wB.heap.size = w.heap.size + 4 := by rw [← hwB]; simp
  have hBl : Below w.heap.size w wB := by
    rw [← hwB]; exact ((((Below.refl _ _).alloc (Nat.le_refl _) _).alloc (by simp) _).alloc (by simp; omega) _).alloc (by simp; omega) _
  have hN0 : wB.heap[w.heap.size]? = some (.cells #[.slice (some ⟨b, off, none⟩) n cap] 29 (0, 0)) := by
    rw [← hwB]; simp only [get_alloc, World.size_alloc]; repeat (first | rw [if_pos trivial] | rw [if_pos (by omega)] | rw [if_neg (by omega)])
  have hN1 : wB.heap[w.heap.size + 1]? = some (.cells #[.int .i64 0] 3 (0, 0)) := by
    rw [← hwB]; simp only [get_alloc, World.size_alloc]; repeat (first | rw [if_pos trivial] | rw [if_pos (by omega)] | rw [if_neg (by omega)])
  have hN2 : wB.heap[w.heap.size + 1 + 1]? = some (.cells #[.int .i64 0] 31 (0, 0)) := by
    rw [← hwB]; simp only [get_alloc, World.size_alloc]; repeat (first | rw [if_pos trivial] | rw [if_pos (by omega)] | rw [if_neg (by omega)])
  have hN3 : wB.heap[w.heap.size + 1 + 1 + 1]? = some (.cells (Tryz.zeroCells107.setIfInBounds 0 (.bool true)) 107 (0, 0)) := by
    rw [← hwB]; simp only [get_alloc, World.size_alloc]; repeat (first | rw [if_pos trivial] | rw [if_pos (by omega)] | rw [if_neg (by omega)])
  clear hwB
  refine wpIn_loop (FI wB w.heap.size b off n cap (decide (128 < (n : Int))) p) (fun a _ => n - (intOf (a.tmps.getD 20 undef)).toNat) ?_ ?_
  · refine ⟨0, [], fun i => i == 0, _, _, _, _, _, _, _, _, _, _, _, _, _, _, _, _, _, _, _, _, _, _, _, _, _, _, _, _, _, _, _, _, rfl, Nat.zero_le _, rfl, Kept.refl _ _, hN3, ?_, ?_, hN1, hN2, List.nodup_nil, by simp⟩
    · rw [zero107]; simp
    · intro i hi
      rw [zero107]
      exact rep_set (by omega) i hi
  · rintro a W ⟨pc, Ds, R, C, x5, x6, x7, x8, x21, x22, x23, x24, x25, x26, x27, x28, x29, x30, x31, x32, x33, x34, x35, x36, x37, x38, x39, x40, x41, x42, x43, x44, x45, x46, x47, rfl, hpc, hgo, hk, hC, hCs, hCv, hc1, hc2, hnd, hD⟩
    have hWs : wB.heap.size ≤ W.heap.size := hk.size
    have hWN : w.heap.size + 4 ≤ W.heap.size := by omega
    have hBW : Below w.heap.size w W := hBl.trans (hk.below (by omega) (fun k h => by omega))
    have hpb : W.cell? ⟨w.heap.size, 0, none⟩ = some (.slice (some ⟨b, off, none⟩) n cap) := by
      rw [cell_of_heap (hk.heap hN0 (by omega))]; rfl
    have hcell3 : ∀ i, i < 128 → W.cell? ⟨w.heap.size + 1 + 1 + 1, i, none⟩ = some (.bool (R i)) := fun i h => by rw [cell_of_heap hC]; exact hCv i h
    have q1 : W.cell? ⟨w.heap.size + 1, 0, none⟩ = some (.int .i64 0) := by rw [cell_of_heap hc1]; rfl
    have q2 : W.cell? ⟨w.heap.size + 1 + 1, 0, none⟩ = some (.int .i64 0) := by rw [cell_of_heap hc2]; rfl
    have f1 : W.frozen? ⟨w.heap.size + 1, 0, none⟩ = false := free_of_heap hc1
    have f2 : W.frozen? ⟨w.heap.size + 1 + 1, 0, none⟩ = false := free_of_heap hc2
    by_cases hlt : pc < n
    · have hWp : ∀ o, W.cell? ⟨b, o, none⟩ = w.cell? ⟨b, o, none⟩ := fun o => hBW.cell (p := ⟨b, o, none⟩) hb
      have hpp := HP.out pc hlt
      simp only [← hWp] at hpp
      clear hWp
      have hkk := HK.out pc hlt
      obtain ⟨f, hf⟩ : ∃ f, n - pc = f + 1 := ⟨n - pc - 1, by omega⟩
      rw [hf] at hgo
      have hst : flowGo p n (f + 1) pc R = (if (p pc).bad ≠ 0 then ((pc : Int), (p pc).bad) else cond (R pc) (cond (((p pc).on pc).any (fun x => decide ((n : Int) ≤ x))) ((pc : Int), 10)
        (flowGo p n f (pc + 1) (fun i => R i || ((p pc).on pc).any (fun x => x == (i : Int))))) ((pc : Int), 10)) := rfl
      rw [hst] at hgo
      clear hst
      generalize p pc = ins at hpp hkk hgo
      obtain ⟨op, ia, ib, ic, imm⟩ := ins
      obtain ⟨p0, p1, p2, p3, p4⟩ := hpp
      obtain ⟨⟨o0, o1⟩, ⟨a0, a1⟩, ⟨b0, b1⟩, ⟨d0, d1⟩, ⟨i0, i1⟩⟩ := hkk
      simp only [Ins.bad, Ins.on] at hgo
      dsimp only at p0 p1 p2 p3 p4 o0 o1 a0 a1 b0 b1 d0 d1 i0 i1
      have hIC := fun w => insnCheck_any op ia ib ic imm a0 a1 b0 b1 d0 d1 w
      obtain ⟨bad, hbd⟩ : ∃ bad, insnBad op ia ib ic imm = bad := ⟨_, rfl⟩
      simp only [hbd] at hIC hgo
      clear hbd
      have hRp : W.cell? ⟨w.heap.size + 1 + 1 + 1, pc, none⟩ = some (.bool (R pc)) := hcell3 pc (by omega)
      have HIC := Lib.hid hIC
      have HF := Lib.hid hf
      have HG := Lib.hid hgo
      have HD := Lib.hid hD
      have HR := Lib.hid hcell3
      have HCV := Lib.hid hCv
      clear hIC hf hgo hD hcell3 hCv
      by_cases hb0 : bad = 0
      · subst hb0
        gi_wp2_with fail
        refine ⟨trivial, (callsIn_wide.2 (HIC.out _)).mono ?_⟩
        rintro e w1 ⟨rfl, hb1⟩
        have hB1 : Below W.heap.size W w1 := ((((Below.refl _ _).alloc (Nat.le_refl _) _).alloc (by simp) _).trans (hb1.mono (by simp; omega)))
        have hz1 : W.heap.size + 2 ≤ w1.heap.size := by have := hb1.size; simp at this; omega
        have r1 : w1.cell? ⟨w.heap.size + 1, 0, none⟩ = some (.int .i64 0) := (hB1.cell (p := ⟨_, 0, none⟩) (by simp; omega)).trans q1
        have r2 : w1.cell? ⟨w.heap.size + 1 + 1, 0, none⟩ = some (.int .i64 0) := (hB1.cell (p := ⟨_, 0, none⟩) (by simp; omega)).trans q2
        have r3 : w1.cell? ⟨w.heap.size + 1 + 1 + 1, pc, none⟩ = some (.bool (R pc)) := (hB1.cell (p := ⟨_, pc, none⟩) (by simp; omega)).trans hRp
        have r0 : w1.cell? ⟨w.heap.size, 0, none⟩ = some (.slice (some ⟨b, off, none⟩) n cap) := (hB1.cell (p := ⟨_, 0, none⟩) (by simp; omega)).trans hpb
        have g1 : w1.frozen? ⟨w.heap.size + 1, 0, none⟩ = false := (hB1.frozen (p := ⟨_, 0, none⟩) (by simp; omega)).trans f1
        have g2 : w1.frozen? ⟨w.heap.size + 1 + 1, 0, none⟩ = false := (hB1.frozen (p := ⟨_, 0, none⟩) (by simp; omega)).trans f2
        have r5 : w1.cell? ⟨W.heap.size, 0, none⟩ = some (.int .i64 pc) := (hb1.cell (p := ⟨_, 0, none⟩) (by simp; omega)).trans ((cell_of_heap (heap_alloc_lt _ (heap_alloc_at _))).trans rfl)
        have r5h : w1.heap[W.heap.size]? = some (.cells #[.int .i64 pc] 3 (0, 0)) := (hb1.block _ (by simp; omega)).trans (heap_alloc_lt _ (heap_alloc_at _))
        have HB1 := Lib.hid hb1
        clear hb1
        have hpc' : (pc : Int) < 128 := by omega
        cases hRR : R pc
        · rw [hRR] at r3
          have HRR := Lib.hid hRR
          clear hRR hRp
          gi_wp2
          show LeavesInM Fence.wide 5 _ _ _ _ _ _ _
          refine leave_flow (v1 := pc) (v2 := 10) rfl rfl rfl ?_ hnd ?_ ?_ ?_ ?_ ?_
          · exact ((hBW.trans (hB1.mono (by omega))).setCell (p := ⟨w.heap.size + 1, 0, none⟩) (by simp) _).setCell (p := ⟨w.heap.size + 1 + 1, 0, none⟩) (by simp; omega) _
          · intro D h
            have hD := HD.out D h
            refine ⟨hD.1, heap_set_other _ (heap_set_other _ ((hB1.block D (lt_of_heap hD.2)).trans hD.2) (by simp; omega)) (by simp; omega)⟩
          · exact heap_set_other _ (heap_set_same _ ((hB1.block _ (by omega)).trans hc1)) (by simp)
          · exact heap_set_same _ (heap_set_other _ ((hB1.block _ (by omega)).trans hc2) (by simp))
          · rw [HG.out, if_neg (by simp), HRR.out]; rfl
          · rw [HG.out, if_neg (by simp), HRR.out]; rfl
        · rw [hRR] at r3
          have HRR := Lib.hid hRR
          clear hRR hRp
          gi_wp2_with fail
          refine ⟨trivial, (callsIn_wide.2 (behind_any _ _ rfl _)).mono ?_⟩
          rintro e w' ⟨rfl, hw2⟩
          gi_wp2_with fail
          have hs2 : w'.heap.size = w1.heap.size + 2 := by rw [← hw2]; simp
          have hB2 : Below w1.heap.size w1 w' := by rw [← hw2]; exact ((Below.refl _ _).alloc (Nat.le_refl _) _).alloc (by simp) _
          have hBW2 : Below W.heap.size W w' := hB1.trans (hB2.mono (by omega))
          have bp : w'.heap[w1.heap.size]? = some (.cells #[.slice (some ⟨b, off, none⟩) n cap] 29 (0, 0)) := by
            rw [← hw2]; exact heap_alloc_lt _ (heap_alloc_at _)
          have bc : w'.heap[w1.heap.size + 1]? = some (.cells #[.int .i64 pc] 3 (0, 0)) := by
            rw [← hw2]; simp only [get_alloc, World.size_alloc]; repeat (first | rw [if_pos trivial] | rw [if_pos (by omega)] | rw [if_neg (by omega)])
          clear hw2
          have bN0 : w'.heap[w.heap.size]? = some (.cells #[.slice (some ⟨b, off, none⟩) n cap] 29 (0, 0)) := (hBW2.block _ (by omega)).trans (hk.heap hN0 (by omega))
          have bN1 := (hBW2.block _ (by omega)).trans hc1
          have bN2 := (hBW2.block _ (by omega)).trans hc2
          have bN3 := (hBW2.block _ (by omega)).trans hC
          have b5 : w'.heap[W.heap.size]? = some (.cells #[.int .i64 pc] 3 (0, 0)) := (hB2.block _ (by omega)).trans r5h
          have bW : b < W.heap.size := by omega
          have hsub : ∀ o, w'.cell? ⟨b, o, none⟩ = W.cell? ⟨b, o, none⟩ := fun o => hBW2.cell (p := ⟨b, o, none⟩) bW
          have hPx : ∀ x ∈ bl op pc imm, 0 ≤ x := by
            intro x hx
            unfold bl at hx
            split at hx
            · simp at hx
            · split at hx
              · simp at hx; omega
              · split at hx
                · split at hx
                  · simp at hx; omega
                  · simp at hx; omega
                · simp at hx; omega
          refine wpIn_rangeFunc_ownF (α := { x : Int // 0 ≤ x }) rfl (by omega) (gf := 61) (lb := #[.pointer (some ⟨w1.heap.size + 1, 0, none⟩), .pointer (some ⟨w1.heap.size, 0, none⟩)]) rfl trivial (enters_of Tryz.func61 (by kernel_rfl) rfl)
            (behind_stops Fence.wide 4 trivial rfl (by omega) w1.heap.size (w1.heap.size + 1) b off n cap pc op ia ib ic imm hlt (by omega) i0 i1 (fun x => 0 ≤ x) hPx w' ((cell_of_heap bp).trans rfl) ((cell_of_heap bc).trans rfl)
              ((hsub _).trans p0) ((hsub _).trans p1) ((hsub _).trans p2) ((hsub _).trans p3) ((hsub _).trans p4))
            keepC_t (keepC_b (by omega)) (Below.refl _ _) (fun _ => rfl)
            (fun pre V => Kept (fun k => k = w.heap.size + 1 ∨ k = w.heap.size + 1 + 1 ∨ k = w.heap.size + 1 + 1 + 1) w' V ∧ (∃ C', V.heap[w.heap.size + 1 + 1 + 1]? = some (.cells C' 107 (0, 0)) ∧ C'.size = 128 ∧ ∀ i, i < 128 → C'[i]? = some (.bool (R i || (pre.map (·.1)).any (fun x => x == (i : Int))))) ∧
              V.heap[w.heap.size + 1]? = some (.cells #[.int .i64 0] 3 (0, 0)) ∧ V.heap[w.heap.size + 1 + 1]? = some (.cells #[.int .i64 0] 31 (0, 0)) ∧ ∀ x ∈ pre.map (·.1), x < (n : Int))
            (fun c pre V => c = .ret ∧ Kept (fun k => k = w.heap.size + 1 ∨ k = w.heap.size + 1 + 1 ∨ k = w.heap.size + 1 + 1 + 1) w' V ∧ V.heap[w.heap.size + 1]? = some (.cells #[.int .i64 pc] 3 (0, 0)) ∧ V.heap[w.heap.size + 1 + 1]? = some (.cells #[.int .i64 10] 31 (0, 0)) ∧ ∃ x ∈ pre.map (·.1), (n : Int) ≤ x)
            ?hI ?hIx ?h0 (fun x => { tmps := #[.slice (some ⟨b, off, none⟩) n cap, .pointer (some ⟨w.heap.size, 0, none⟩), .pointer (some ⟨w.heap.size + 1, 0, none⟩), .pointer (some ⟨w.heap.size + 1 + 1, 0, none⟩), .pointer (some ⟨w.heap.size + 1 + 1 + 1, 0, none⟩), .pointer (some ⟨W.heap.size, 0, none⟩),
            .pointer (some ⟨W.heap.size + 1, 0, none⟩), .int .i64 0, .int .i64 x.1, .slice (some ⟨b, off, none⟩) n cap, .int .i64 n, .bool false, .bool false, .slice (some ⟨b, off, none⟩) n cap, .int .i64 n, .bool (decide (128 < (n : Int))), .bool (decide (128 < (n : Int))),
            .pointer (some ⟨w.heap.size + 1 + 1 + 1, 0, none⟩), .slice (some ⟨b, off, none⟩) n cap, .int .i64 n, .int .i64 pc, .bool true, .int .i64 pc, .pointer (some ⟨b, off + pc * 5, none⟩), .agg #[.int .u8 op, .int .u8 ia, .int .u8 ib, .int .u8 ic, .int .u32 imm],
            .agg #[.int .u8 op, .int .u8 ia, .int .u8 ib, .int .u8 ic, .int .u32 imm], .int .i64 0, .int .i64 0, .bool false, x29, x30, .int .i64 pc, .pointer (some ⟨w.heap.size + 1 + 1 + 1, pc, none⟩), .bool true, .bool false, x35, .slice (some ⟨b, off, none⟩) n cap, .int .i64 pc,
            .func (.func 61) #[] #[.pointer (some ⟨w1.heap.size + 1, 0, none⟩), .pointer (some ⟨w1.heap.size, 0, none⟩)], .int .i64 x.1, x40, x41, x42, x43, x44, x45, x46, x47], defers := [] }) ?assign ?body ?done ?stop
          case hI =>
            rintro s A B row ⟨h1, ⟨C', h2, h3, h4⟩, h5, h6, h7⟩ hg hr
            exact ⟨h1.grown hg hr, ⟨C', grown_heap hg hr (by omega) h2, h3, h4⟩, grown_heap hg hr (by omega) h5, grown_heap hg hr (by omega) h6, h7⟩
          case hIx =>
            rintro c s A B row ⟨h0, h1, h5, h6, h7⟩ hg hr
            exact ⟨h0, h1.grown hg hr, grown_heap hg hr (by omega) h5, grown_heap hg hr (by omega) h6, h7⟩
          case h0 => exact ⟨Kept.refl _ _, ⟨C, bN3, hCs, fun i hi => by simpa using HCV.out i hi⟩, bN1, bN2, by simp⟩
          case assign =>
            intro l x V K hK
            gi_wp2
            exact hK
          case body =>
            rintro l pre ⟨x, hx⟩ V ⟨k1, ⟨C', k2, k3, k4⟩, k5, k6, k7⟩ _
            obtain ⟨k, rfl⟩ := Int.eq_ofNat_of_zero_le hx
            have v0 : V.cell? ⟨w.heap.size, 0, none⟩ = some (.slice (some ⟨b, off, none⟩) n cap) := (cell_of_heap (k1.heap bN0 (by omega))).trans rfl
            have v5 : V.cell? ⟨W.heap.size, 0, none⟩ = some (.int .i64 pc) := (cell_of_heap (k1.heap b5 (by omega))).trans rfl
            have v1 : V.cell? ⟨w.heap.size + 1, 0, none⟩ = some (.int .i64 0) := (cell_of_heap k5).trans rfl
            have v2 : V.cell? ⟨w.heap.size + 1 + 1, 0, none⟩ = some (.int .i64 0) := (cell_of_heap k6).trans rfl
            have u1 : V.frozen? ⟨w.heap.size + 1, 0, none⟩ = false := free_of_heap k5
            have u2 : V.frozen? ⟨w.heap.size + 1 + 1, 0, none⟩ = false := free_of_heap k6
            have u3 : V.frozen? ⟨w.heap.size + 1 + 1 + 1, k, none⟩ = false := free_of_heap k2
            have K4 := Lib.hid k4
            have K7 := Lib.hid k7
            clear k4 k7
            by_cases hkn : k < n
            · obtain ⟨bv, hbv⟩ : ∃ bv, V.cell? ⟨w.heap.size + 1 + 1 + 1, k, none⟩ = some (.bool bv) := ⟨_, (cell_of_heap k2).trans (K4.out k (by omega))⟩
              gi_wp2
              refine ⟨KeepsOthers.setCell _ _ _, World.cell?_setCell_other _ _ _ _ (by intro h; injection h; omega), k1.setCell (fun _ => .inr (.inr rfl)) _, ⟨_, heap_set_same _ k2, by simp [k3], ?_⟩,
                heap_set_other _ k5 (by simp), heap_set_other _ k6 (by simp), ?_⟩
              · intro i hi
                rw [Array.getElem?_setIfInBounds]
                by_cases hik : k = i
                · subst hik
                  rw [if_pos rfl, if_pos (by omega)]
                  simp
                · rw [if_neg hik, K4.out i hi]
                  have : ((k : Int) == (i : Int)) = false := by simp; omega
                  simp [this, List.any_append]
              · intro y hy
                simp only [List.map_append, List.mem_append, List.map_cons, List.map_nil, List.mem_singleton] at hy
                rcases hy with hy | rfl
                · exact K7.out y hy
                · omega
            · gi_wp2
              refine ⟨(KeepsOthers.setCell _ _ _).trans (KeepsOthers.setCell _ _ _), rfl, (k1.setCell (fun _ => .inl rfl) _).setCell (fun _ => .inr (.inl rfl)) _, heap_set_other _ (heap_set_same _ k5) (by simp), heap_set_same _ (heap_set_other _ k6 (by simp)), ?_⟩
              exact ⟨(k : Int), by simp, by omega⟩
          case done =>
            rintro D ys V hD hys ⟨k1, ⟨C', k2, k3, k4⟩, k5, k6, k7⟩ hKD
            have K4 := Lib.hid k4
            have K7 := Lib.hid k7
            have HYS := Lib.hid hys
            clear k4 k7 hys
            have hpc1 : (pc : Int) + 1 < 9223372036854775807 := by omega
            gi_wp2
            refine ⟨⟨pc + 1, D :: Ds, fun i => R i || (bl op pc imm).any (fun x => x == (i : Int)), C', _, _, _, _, _, _, _, _, _, _, _, _, _, _, _, _, _, _, _, _, _, _, _, _, _, _, _, _, _, _, _, rfl, by omega, ?_, ?_, k2, k3, ?_, k5, k6, ?_, ?_⟩, ?_⟩
            · have hany : ((bl op pc imm).any fun x => decide ((n : Int) ≤ x)) = false := by
                rw [List.any_eq_false]
                intro x hx
                have := K7.out x (by rw [HYS.out]; exact hx)
                simp; omega
              rw [HG.out, if_neg (by simp), HRR.out, hany, cond_true, cond_false]
              have e : n - (pc + 1) = f := by have := HF.out; omega
              rw [e]
            · refine Kept.after (hk) (Kept.after (Kept.of_below hBW2 _) k1 (fun i hi h => h)) (fun i hi h => h)
            · intro i hi
              rw [K4.out i hi, HYS.out]
            · refine List.nodup_cons.2 ⟨fun h => ?_, hnd⟩
              have := lt_of_heap (HD.out D h).2
              have := hBW2.size
              omega
            · intro E hE
              rcases List.mem_cons.1 hE with rfl | hE
              · exact ⟨by have := hBW2.size; omega, hKD⟩
              · have h := HD.out E hE
                exact ⟨h.1, k1.heap ((hBW2.block E (lt_of_heap h.2)).trans h.2) (by omega)⟩
            · simp [intOf]; omega
          case stop =>
            rintro D c pre V hD hpre ⟨rfl, k1, k5, k6, x, hx, hxn⟩ hKD
            gi_wp2
            show LeavesInM Fence.wide 5 _ _ _ _ _ _ _
            refine leave_flow (Ds := D :: Ds) (v1 := pc) (v2 := 10) rfl rfl rfl ?_ ?_ ?_ k5 k6 ?_ ?_
            · exact (hBW.trans (hBW2.mono (by omega))).trans (k1.below (by have := hBW2.size; omega) (fun k h => by omega))
            · refine List.nodup_cons.2 ⟨fun h => ?_, hnd⟩
              have := lt_of_heap (HD.out D h).2
              have := hBW2.size
              omega
            · intro E hE
              rcases List.mem_cons.1 hE with rfl | hE
              · exact ⟨by have := hBW2.size; omega, hKD⟩
              · have h := HD.out E hE
                exact ⟨h.1, k1.heap ((hBW2.block E (lt_of_heap h.2)).trans h.2) (by omega)⟩
            all_goals
              have hany : ((bl op pc imm).any fun x => decide ((n : Int) ≤ x)) = true := by
                rw [List.any_eq_true]
                exact ⟨x, hpre.subset hx, by simpa using hxn⟩
              rw [HG.out, if_neg (by simp), HRR.out, hany]; rfl
      · have hbt : (bad != 0) = true := by simpa using hb0
        have HB0 := Lib.hid hb0
        clear hb0
        gi_wp2_with fail
        refine ⟨trivial, (callsIn_wide.2 (HIC.out _)).mono ?_⟩
        rintro e w1 ⟨rfl, hb1⟩
        have hB1 : Below W.heap.size W w1 := ((((Below.refl _ _).alloc (Nat.le_refl _) _).alloc (by simp) _).trans (hb1.mono (by simp; omega)))
        have r1 : w1.cell? ⟨w.heap.size + 1, 0, none⟩ = some (.int .i64 0) := (hB1.cell (p := ⟨_, 0, none⟩) (by simp; omega)).trans q1
        have r2 : w1.cell? ⟨w.heap.size + 1 + 1, 0, none⟩ = some (.int .i64 0) := (hB1.cell (p := ⟨_, 0, none⟩) (by simp; omega)).trans q2
        have g1 : w1.frozen? ⟨w.heap.size + 1, 0, none⟩ = false := (hB1.frozen (p := ⟨_, 0, none⟩) (by simp; omega)).trans f1
        have g2 : w1.frozen? ⟨w.heap.size + 1 + 1, 0, none⟩ = false := (hB1.frozen (p := ⟨_, 0, none⟩) (by simp; omega)).trans f2
        have r5 : w1.cell? ⟨W.heap.size, 0, none⟩ = some (.int .i64 pc) := (hb1.cell (p := ⟨_, 0, none⟩) (by simp; omega)).trans ((cell_of_heap (heap_alloc_lt _ (heap_alloc_at _))).trans rfl)
        have HB1 := Lib.hid hb1
        clear hb1
        gi_wp2
        show LeavesInM Fence.wide 5 _ _ _ _ _ _ _
        refine leave_flow (v1 := pc) (v2 := bad) rfl rfl rfl ?_ hnd ?_ ?_ ?_ ?_ ?_
        · exact ((hBW.trans (hB1.mono (by omega))).setCell (p := ⟨w.heap.size + 1, 0, none⟩) (by simp) _).setCell (p := ⟨w.heap.size + 1 + 1, 0, none⟩) (by simp; omega) _
        · intro D h
          have hD := HD.out D h
          refine ⟨hD.1, heap_set_other _ (heap_set_other _ ((hB1.block D (lt_of_heap hD.2)).trans hD.2) (by simp; omega)) (by simp; omega)⟩
        · exact heap_set_other _ (heap_set_same _ ((hB1.block _ (by omega)).trans hc1)) (by simp)
        · exact heap_set_same _ (heap_set_other _ ((hB1.block _ (by omega)).trans hc2) (by simp))
        · rw [HG.out, if_pos HB0.out]
        · rw [HG.out, if_pos HB0.out]
    · obtain rfl : pc = n := by omega
      have HG := Lib.hid hgo
      have HD := Lib.hid hD
      have HR := Lib.hid hcell3
      have HCV := Lib.hid hCv
      clear hgo hD hcell3 hCv
      gi_wp2
      show LeavesInM Fence.wide 5 _ _ _ _ _ _ _
      refine leave_flow (v1 := 0) (v2 := 0) rfl rfl rfl ?_ hnd ?_ ?_ ?_ ?_ ?_
      · exact (hBW.setCell (p := ⟨w.heap.size + 1, 0, none⟩) (by simp) _).setCell (p := ⟨w.heap.size + 1 + 1, 0, none⟩) (by simp; omega) _
      · intro D h
        have hD := HD.out D h
        exact ⟨hD.1, heap_set_other _ (heap_set_other _ hD.2 (by simp; omega)) (by simp; omega)⟩
      · exact heap_set_other _ (heap_set_same _ hc1) (by simp)
      · exact heap_set_same _ (heap_set_other _ hc2 (by simp))
      · rw [HG.out, Nat.sub_self]; rfl
      · rw [HG.out, Nat.sub_self]; rfl
end Go.Proofs.YtkkfacgbfjmckaaGreatDoor
