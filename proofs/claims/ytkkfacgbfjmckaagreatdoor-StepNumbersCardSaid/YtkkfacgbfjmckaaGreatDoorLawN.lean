/- turnbucklelaw21.StepNumbers, walked. -/
import Derived.Test.YtkkfacgbfjmckaaGreatDoorProg
import Derived.Test.YtkkfacgbfjmckaaGreatDoorFr
import Derived.Test.YtkkfacgbfjmckaaGreatDoorNil
import Derived.Test.YtkkfacgbfjmckaaGreatDoorStepB
import Derived.Test.YtkkfacgbfjmckaaGreatDoorStepC
import Derived.Test.YtkkfacgbfjmckaaGreatDoorStepE
import Derived.Test.YtkkfacgbfjmckaaGreatDoorStepF
import Derived.Test.YtkkfacgbfjmckaaGreatDoorAlu
import Derived.Test.YtkkfacgbfjmckaaGreatDoorLaw0
import Derived.Deep.RegionHeld3
import Derived.Deep.AppendLies
namespace Go.Proofs.YtkkfacgbfjmckaaGreatDoor
open Go.RowKit Go.Shelf
set_option maxRecDepth 100000
set_option maxHeartbeats 0
set_option linter.unusedVariables false

def numsP (m : Nat) (o im : Nat → Int) (i : Nat) : Ins :=
  if i = 0 then ⟨1, 0, 1, 0, 0⟩ else if i ≤ m then ⟨4, 0, 0, 1 + o (i - 1) % 11, im (i - 1)⟩ else ⟨15, 0, 0, 0, 0⟩

theorem numsP_mid (m : Nat) (o im : Nat → Int) (i : Nat) (h : i < m) : numsP m o im (i + 1) = ⟨4, 0, 0, 1 + o i % 11, im i⟩ := by
  unfold numsP; rw [if_neg (by omega), if_pos (by omega)]; rfl
theorem numsP_end (m : Nat) (o im : Nat → Int) : numsP m o im (m + 1) = ⟨15, 0, 0, 0, 0⟩ := by
  unfold numsP; rw [if_neg (by omega), if_neg (by omega)]

theorem numsP_bad4 (c im : Int) (c0 : 1 ≤ c) (c1 : c ≤ 11) (i0 : 0 ≤ im) (i1 : im ≤ 4294967295) : insnBad 4 0 0 c im = 0 := by
  have e0 : rowAt 4 0 = 9 := rfl
  have e1 : rowAt 4 1 = 0 := rfl
  have e2 : rowAt 4 2 = 11 := rfl
  have e3 : rowAt 4 3 = 0 := rfl
  have e4 : rowAt 4 4 = 4294967295 := rfl
  have hc0 : ¬ c = 0 := by omega
  have hi0 : ¬ im < 0 := by omega
  have hi1 : ¬ 4294967295 < im := by omega
  have hc : ¬ 11 < c := by omega
  simp [insnBad, insnOf, e0, e1, e2, e3, e4, overB, hasWords, hc0, hi0, hi1, hc]

theorem numsP_bad (m : Nat) (o im : Nat → Int) (h : ∀ i, i < m → (0 ≤ o i ∧ o i ≤ 255) ∧ (0 ≤ im i ∧ im i ≤ 4294967295)) (i : Nat) (hi : i < m + 2) : (numsP m o im i).bad = 0 := by
  by_cases h0 : i = 0
  · subst h0; exact (by decide +kernel : (⟨1, 0, 1, 0, 0⟩ : Ins).bad = 0)
  · obtain ⟨j, rfl⟩ : ∃ j, i = j + 1 := ⟨i - 1, by omega⟩
    by_cases h1 : j < m
    · rw [numsP_mid m o im j h1]
      obtain ⟨⟨a1, a2⟩, a3, a4⟩ := h j h1
      exact numsP_bad4 (1 + o j % 11) (im j) (by omega) (by omega) a3 a4
    · obtain rfl : j = m := by omega
      rw [numsP_end]
      exact (by decide +kernel : (⟨15, 0, 0, 0, 0⟩ : Ins).bad = 0)

theorem numsP_on (m : Nat) (o im : Nat → Int) (i : Nat) (hi : i < m + 1) : (numsP m o im i).on i = [(i : Int) + 1] := by
  by_cases h0 : i = 0
  · subst h0; rfl
  · obtain ⟨j, rfl⟩ : ∃ j, i = j + 1 := ⟨i - 1, by omega⟩
    rw [numsP_mid m o im j (by omega)]
    rfl

theorem numsP_go (m : Nat) (o im : Nat → Int) (h : ∀ i, i < m → (0 ≤ o i ∧ o i ≤ 255) ∧ (0 ≤ im i ∧ im i ≤ 4294967295)) :
    ∀ (f pc : Nat) (R : Nat → Bool), pc + f = m + 2 → (pc < m + 2 → R pc = true) → (flowGo (numsP m o im) (m + 2) f pc R).2 = 0
  | 0, _, _, _, _ => rfl
  | f + 1, pc, R, hf, hR => by
    rw [flowGo, if_neg (by rw [numsP_bad m o im h pc (by omega)]; simp), hR (by omega)]
    by_cases he : pc < m + 1
    · rw [numsP_on m o im pc he]
      have e : ([(pc : Int) + 1].any (fun x => decide (((m + 2 : Nat) : Int) ≤ x))) = false := by simp; omega
      rw [e]
      refine numsP_go m o im h f (pc + 1) _ (by omega) (fun _ => ?_)
      simp
    · obtain rfl : pc = m + 1 := by omega
      obtain rfl : f = 0 := by omega
      have e : (numsP m o im (m + 1)).on (m + 1) = [] := by rw [numsP_end]; rfl
      rw [e]
      rfl

theorem numsP_check (m : Nat) (o im : Nat → Int) (h : ∀ i, i < m → (0 ≤ o i ∧ o i ≤ 255) ∧ (0 ≤ im i ∧ im i ≤ 4294967295)) (hm : m ≤ 100) : (flowCheck (numsP m o im) (m + 2)).2 = 0 := by
  unfold flowCheck
  rw [if_neg (by omega)]
  exact numsP_go m o im h (m + 2) 0 _ (by omega) (fun _ => rfl)

theorem numsP_ok (m : Nat) (o im : Nat → Int) (h : ∀ i, i < m → (0 ≤ o i ∧ o i ≤ 255) ∧ (0 ≤ im i ∧ im i ≤ 4294967295)) (i : Nat) (hi : i < m + 2) : (numsP m o im i).ok := by
  by_cases h0 : i = 0
  · subst h0; exact (⟨by decide, by decide, by decide, by decide, by decide⟩ : Ins.ok ⟨1, 0, 1, 0, 0⟩)
  · obtain ⟨j, rfl⟩ : ∃ j, i = j + 1 := ⟨i - 1, by omega⟩
    by_cases h1 : j < m
    · rw [numsP_mid m o im j h1]
      obtain ⟨⟨a1, a2⟩, a3, a4⟩ := h j h1
      refine ⟨by simp, by simp, by simp, ?_, a3, a4⟩
      dsimp only
      omega
    · obtain rfl : j = m := by omega
      rw [numsP_end]
      exact ⟨by decide, by decide, by decide, by decide, by decide⟩

theorem progCells_end (k : Nat) (o im : Nat → Int) : progCells (numsP k o im) (k + 2) = progCells (numsP k o im) (k + 1) ++ [.int .u8 15, .int .u8 0, .int .u8 0, .int .u8 0, .int .u32 0] := by
  show progCells (numsP k o im) (k + 1) ++ insCells (numsP k o im (k + 1)) = _
  rw [numsP_end]; rfl

theorem nums_1 (bi bp cap k : Nat) (hk : k ≤ 100) (o im : Nat → Int) (arg : Int) (r0 s0 : Nat → Int) (hr : r0 1 = arg) (wv : Value) (w : World) (h : InstAt w bi bp cap (k + 2) (numsP k o im) r0 s0 0 7 true) :
    Calls Tryz.prog 9 #[.pointer (some ⟨bi, 0, none⟩), wv] w fun e w' => e = .returned (.agg #[.int .i64 7, .int .i64 0, .int .u64 arg, .bool false, .bool false, .int .i64 0]) ∧
      InstAt w' bi bp cap (k + 2) (numsP k o im) (upd r0 0 arg) s0 1 7 true ∧ Kept (fun k => k = bi) w w' := by
  have H := step_mov bi bp cap (k + 2) 0 (numsP k o im) r0 s0 7 0 1 wv w (by omega) (by omega) (by omega) (by omega) h rfl
  rw [hr] at H
  exact H

theorem nums_2 (bi bp cap k q : Nat) (hk : k ≤ 100) (hq : q < k + 2) (o im : Nat → Int) (c i v v' : Int) (r s0 : Nat → Int) (hr : r 0 = v) (i0 : 0 ≤ i) (i1 : i ≤ 4294967295) (c0 : 1 ≤ c) (c1 : c ≤ 11) (hx : numsP k o im q = ⟨4, 0, 0, c, i⟩)
    (hA : ∀ w, Calls Tryz.prog 10 #[.int .i64 c, .int .u64 v, .int .u64 i] w fun e w' => e = .returned (.tuple #[.int .u64 v', .int .i64 0]) ∧ w = w')
    (wv : Value) (w : World) (h : InstAt w bi bp cap (k + 2) (numsP k o im) r s0 (q : Int) 7 true) :
    Calls Tryz.prog 9 #[.pointer (some ⟨bi, 0, none⟩), wv] w fun e w' => e = .returned (.agg #[.int .i64 7, .int .i64 q, .int .u64 v', .bool false, .bool false, .int .i64 0]) ∧
      InstAt w' bi bp cap (k + 2) (numsP k o im) (upd r 0 v') s0 ((q + 1 : Nat) : Int) 7 true ∧ Kept (fun k => k = bi) w w' := by
  subst hr
  exact step_alui bi bp cap (k + 2) q (numsP k o im) r s0 7 0 0 c i v' wv w (by omega) (by omega) (by omega) (by omega) (by omega) (by omega) i0 i1 hA h hx

theorem nums_3 (bi bp cap k : Nat) (hk : k ≤ 100) (o im : Nat → Int) (v : Int) (r s0 : Nat → Int) (hr : r 0 = v) (wv : Value) (w : World) (h : InstAt w bi bp cap (k + 2) (numsP k o im) r s0 ((k + 1 : Nat) : Int) 7 true) :
    Calls Tryz.prog 9 #[.pointer (some ⟨bi, 0, none⟩), wv] w fun e w' => e = .returned (.agg #[.int .i64 7, .int .i64 ((k + 1 : Nat) : Int), .int .u64 v, .bool false, .bool true, .int .i64 0]) ∧
      InstAt w' bi bp cap (k + 2) (numsP k o im) r s0 ((k + 1 : Nat) : Int) 7 false ∧ Kept (fun k => k = bi) w w' := by
  subst hr
  exact step_exit bi bp cap (k + 2) (k + 1) (numsP k o im) r s0 7 0 0 wv w (by omega) (by omega) (by omega) (by omega) h (numsP_end k o im)

theorem nums_walk (ao bo : Option Addr) (lo co li ci : Nat) (o im : Nat → Int) (arg : Int) (w : World)
    (ho : ∀ i, i < lo → ∃ b off, ao = some ⟨b, off, none⟩ ∧ w.cell? ⟨b, off + i, none⟩ = some (.int .u8 (o i)) ∧ 0 ≤ o i ∧ o i ≤ 255)
    (hi : ∀ i, i < li → ∃ b off, bo = some ⟨b, off, none⟩ ∧ w.cell? ⟨b, off + i, none⟩ = some (.int .u32 (im i)) ∧ 0 ≤ im i ∧ im i ≤ 4294967295)
    (hg : w.cell? ⟨0, 0, none⟩ = some (.int .u8 0)) (hgl : 0 < w.heap.size) :
    Calls Tryz.prog 3 #[.slice ao lo co, .slice bo li ci, .int .u64 arg] w fun e w' => e = .returned (.bool true) ∧ Below w.heap.size w w' := by
  obtain ⟨i0, hi0, hz0, hz1, hz2⟩ := info_parts info_insn
  obtain ⟨m, hm⟩ : ∃ m : Nat, m = min lo (min li 100) := ⟨_, rfl⟩
  have hm1 : m ≤ lo := by omega
  have hm2 : m ≤ li := by omega
  have hm3 : m ≤ 100 := by omega
  have hrng : ∀ i, i < m → (0 ≤ o i ∧ o i ≤ 255) ∧ (0 ≤ im i ∧ im i ≤ 4294967295) := fun i h => by
    obtain ⟨_, _, _, _, h1⟩ := ho i (by omega)
    obtain ⟨_, _, _, _, h2⟩ := hi i (by omega)
    exact ⟨h1, h2⟩
  have HO := Lib.hid ho
  have HI := Lib.hid hi
  have HR := Lib.hid hrng
  have HM := Lib.hid hm
  clear ho hi hrng hm
  go_enter Tryz.func3, Tryz.ntmps3
  go_wp2_with fail
  refine (shown_any _ hg).mono ?_
  rintro e w1 ⟨rfl, hb1⟩
  have HB1 := Lib.hid hb1
  clear hb1
  go_wp2_with fail
  go_loopw [8, 9] (fun v iv wr => ∃ k : Nat, k ≤ m ∧ iv = .int .i64 k ∧ wr.ownsRow w1.heap.size 28 5 v (k + 1) (progCells (numsP m o im) (k + 1)) ∧ Below w1.heap.size w1 wr) (fun _ iv _ => 100 - (intOf iv).toNat)
  case atStart =>
    exact ⟨0, by omega, rfl, World.ownsRow_lit w1 _ 1 (Nat.le_refl _) (by simp [maxLen]) rfl, (Below.refl _ _).alloc (Nat.le_refl _) _⟩
  case round =>
    obtain ⟨k, hk, rfl, hown, hB⟩ := hrel
    by_cases hkm : k < m
    · obtain ⟨b, off, rfl, hc, o0, o1⟩ := HO.out k (by omega)
      obtain ⟨b', off', rfl, hc', i0', i1'⟩ := HI.out k (by omega)
      have hs1 := HB1.out.size
      have hBs := hB.size
      have c1 : wr.cell? ⟨b, off + k, none⟩ = some (.int .u8 (o k)) := (hB.cell (p := ⟨b, off + k, none⟩) (Nat.lt_of_lt_of_le (World.block_lt_of_cell? w _ hc) hs1)).trans ((HB1.out.cell (p := ⟨b, off + k, none⟩) (World.block_lt_of_cell? w _ hc)).trans hc)
      have c2 : wr.cell? ⟨b', off' + k, none⟩ = some (.int .u32 (im k)) := (hB.cell (p := ⟨b', off' + k, none⟩) (Nat.lt_of_lt_of_le (World.block_lt_of_cell? w _ hc') hs1)).trans ((HB1.out.cell (p := ⟨b', off' + k, none⟩) (World.block_lt_of_cell? w _ hc')).trans hc')
      have n1 := World.new_ne wr _ c1
      have n2 := World.new_ne wr _ c2
      have lb := World.block_lt_of_cell? w _ hc
      have lb' := World.block_lt_of_cell? w _ hc'
      dsimp only at lb lb'
      clear hc hc'
      have k0 : (0 : Int) ≤ (k : Int) := Int.natCast_nonneg _
      have k1 : (k : Int) < (lo : Int) := by omega
      have k2 : (k : Int) < (li : Int) := by omega
      have k3 : (k : Int) < 100 := by omega
      have HWN := Lib.hid hown
      rcases hown.2 with ⟨_, hz⟩ | ⟨g, cap, cur, rfl, hgb, hgh, -⟩
      · exfalso; omega
      have ag : (Value.slice (some ⟨g, 0, none⟩) (k + 1) cap).ownBlock ≠ some b := by simp [Value.ownBlock]; omega
      have ag' : (Value.slice (some ⟨g, 0, none⟩) (k + 1) cap).ownBlock ≠ some b' := by simp [Value.ownBlock]; omega
      clear hown
      go_wp2_with fail
      go_region_held3 (fun w' => w'.cell? ⟨b, off + k, none⟩ = some (.int .u8 (o k)) ∧ w'.cell? ⟨b', off' + k, none⟩ = some (.int .u32 (im k)))
        (first | go_keep | (go_split_ands; refine ⟨?_, ?_⟩ <;> (first | (rw [hgrow.cell_far _ (by simp; omega) (Ne.symm ag)]; assumption) | (rw [hgrow.cell_far _ (by simp; omega) (Ne.symm ag')]; assumption))))
        ((refine step_append_lies _ (by rfl) _ _ _ (by rfl) w1.heap.size 28 i0 _ 5 8 Tryz.underlying29 hi0 hz0 hz1 hz2 rfl (by omega) (.slice (some ⟨g, 0, none⟩) (k + 1) cap) (k + 1) (progCells (numsP m o im) (k + 1)) (by rfl) ((HWN.out.alloc _).drew) ⟨wr.heap.size, 0, none⟩ 1 1 [.int .u8 4, .int .u8 0, .int .u8 0, .int .u8 (IntKind.u8.wrap (1 + (o k).tmod 11)), .int .u32 (im k)] (by rfl) (by rfl) (World.news_of_block (cs := #[.int .u8 4, .int .u8 0, .int .u8 0, .int .u8 (IntKind.u8.wrap (1 + (o k).tmod 11)), .int .u32 (im k)]) (t := 28) (fr := (0, 0)) (heap_alloc_new wr _)) (by simp [Value.oneCell']) (by omega) (by simp [maxLen]; omega) (by omega) (by simp; omega) (wr.heap.size + 1) (by simp) ?_; intro gg cap wa hown1 hgrow hat hlt))
      go_wp2_with fail
      have e11 : IntKind.u8.wrap (1 + (o k).tmod 11) = 1 + o k % 11 := by rw [Int.tmod_eq_emod_of_nonneg o0]; simp [IntKind.wrap, IntKind.bits, IntKind.signed]; omega
      rw [e11] at hown1
      have ec : progCells (numsP m o im) (k + 1 + 1) = progCells (numsP m o im) (k + 1) ++ [.int .u8 4, .int .u8 0, .int .u8 0, .int .u8 (1 + o k % 11), .int .u32 (im k)] := by
        rw [progCells, numsP_mid m o im k hkm]; rfl
      refine ⟨⟨k + 1, by omega, by simp, ?_, ?_⟩, by simp [intOf]; omega⟩
      · rw [ec]; exact hown1
      · exact ((hB.alloc hBs _).drew).grown hgrow (by simp; omega) (fun j e => by simp [Value.ownBlock] at e; omega)
    · obtain rfl : k = m := by omega
      have k0 : (0 : Int) ≤ (k : Int) := Int.natCast_nonneg _
      have hcs : ¬ (k : Int) < (lo : Int) ∨ ((k : Int) < (lo : Int) ∧ ¬ (k : Int) < (li : Int)) ∨ ((k : Int) < (lo : Int) ∧ (k : Int) < (li : Int) ∧ ¬ (k : Int) < 100) := by have := HM.out; omega
      rcases hown.2 with ⟨_, hz⟩ | ⟨g, cap, cur, rfl, hgb, hgh, -⟩
      · exfalso; omega
      have HWN := Lib.hid hown
      clear hown
      rcases hcs with k1 | ⟨k1, k2⟩ | ⟨k1, k2, k3⟩
      all_goals
        have hBs := hB.size
        go_wp2_with (at_builtin; refine wpList_append_lies _ rfl (.tmp 54) (.tmp 56) 29 rfl w1.heap.size 28 i0 (.agg #[.int .u8 0, .int .u8 0, .int .u8 0, .int .u8 0, .int .u32 0]) 5 8 Tryz.underlying29 hi0 hz0 hz1 hz2 rfl (by decide) (.slice (some ⟨g, 0, none⟩) (k + 1) cap) (k + 1) (progCells (numsP k o im) (k + 1)) rfl (HWN.out.alloc _) ⟨wr.heap.size, 0, none⟩ 1 1 [.int .u8 15, .int .u8 0, .int .u8 0, .int .u8 0, .int .u32 0] rfl rfl (World.news_of_block (cs := #[.int .u8 15, .int .u8 0, .int .u8 0, .int .u8 0, .int .u32 0]) (t := 28) (fr := (0, 0)) (heap_alloc_new wr _)) (by simp [Value.oneCell']) (by omega) (by simp [maxLen]; omega) (by omega) (by simp; omega) (wr.heap.size + 1) (by simp) ?_; intro gg cap' w2 hown2 hgrow hat hlt)
        have hP2 : HasProg w2 gg 0 (k + 2) (numsP k o im) := by
          rcases hown2.2 with ⟨_, hz⟩ | ⟨g2, cap2, cur2, hv2, _, hh2, _, _, _, ht2⟩
          · exfalso; omega
          · cases hv2
            refine hasProg_of_row hh2 ?_
            rw [ht2]; exact (progCells_end k o im).symm
        have hB2 : Below w1.heap.size w1 w2 := (hB.alloc hBs _).grown hgrow (by simp; omega) (fun j e => by simp [Value.ownBlock] at e; omega)
        have hgg : w1.heap.size ≤ gg := by
          rcases hat with h | h
          · simp [Value.ownBlock] at h; omega
          · omega
        have hB2s := hB2.size
        have hs1 := HB1.out.size
        refine (worldNew_nil 1 _ (by omega) (by omega) ?_).mono ?_
        · exact ((hB2.cell (p := ⟨0, 0, none⟩) (by simp; omega)).trans (HB1.out.cell (p := ⟨0, 0, none⟩) hgl)).trans hg
        rintro e w3 ⟨⟨bw, rfl⟩, hb3⟩
        have hb3s := hb3.size
        have hP3 : HasProg w3 gg 0 (k + 2) (numsP k o im) := hP2.same (fun q => hb3.cell (p := ⟨gg, q, none⟩) hlt)
        have hB3 : Below w1.heap.size w1 w3 := hB2.trans (hb3.mono hB2s)
        clear hP2 hB2 hown2 hgrow hat hb3 HWN hgh hB
        go_wp2_with fail
        refine (stepNew_yes gg 0 (k + 2) cap' (numsP k o im) 7 arg w3 hP3 (numsP_ok k o im HR.out) (by omega) (by omega) (by omega) (by omega) (by omega) (numsP_check k o im HR.out (by omega))).mono ?_
        rintro e w4 ⟨bi, bp, cp, rfl, hI4, hb4, hbi, hbp⟩
        have hb4s := hb4.size
        have hP4 : HasProg w4 gg 0 (k + 2) (numsP k o im) := hP3.same (fun q => hb4.cell (p := ⟨gg, q, none⟩) (by simp; omega))
        have hB4 : Below w1.heap.size w1 w4 := hB3.trans (hb4.mono (by omega))
        have hne : gg ≠ bi := by omega
        have hbi1 : w1.heap.size ≤ bi := by omega
        clear hP3 hB3 hb4
        obtain ⟨r0, hr0⟩ : ∃ r0 : Nat → Int, r0 = (fun i => if i = 1 then arg else 0) := ⟨_, rfl⟩
        rw [← hr0] at hI4
        obtain ⟨t0, ht0⟩ : ∃ t0 : Nat → Int, t0 = (fun _ => 0) := ⟨_, rfl⟩
        rw [← ht0] at hI4
        have hr1 : r0 1 = arg := by rw [hr0]; rfl
        clear hr0 ht0
        go_wp2_with fail
        refine (nums_1 bi bp cp k hm3 o im arg r0 t0 hr1 _ _ hI4).mono ?_
        rintro e w5 ⟨rfl, hI5, hk5⟩
        go_wp2_with fail
        have hB5 : Below w1.heap.size w1 w5 := hB4.trans (hk5.below hB4.size (fun j hj => by omega))
        have hP5 : HasProg w5 gg 0 (k + 2) (numsP k o im) := hP4.same (fun q => hk5.cell (p := ⟨gg, q, none⟩) (by simp; omega) hne)
        clear hP4 hB4 hI4 
        have hlt5 : gg < w5.heap.size := by have := hk5.size; omega
        have n5 : w5.heap.size ≠ bi := by have := lt_of_heap hI5.block; omega
        go_loopw [15, 16] (fun v iv wr => ∃ (q : Nat) (r : Nat → Int) (x : Int), 1 ≤ q ∧ q ≤ k + 1 ∧ iv = .int .i64 q ∧ v = .int .u64 x ∧ r 0 = x ∧ InstAt wr bi bp cp (k + 2) (numsP k o im) r t0 q 7 true ∧
          HasProg wr gg 0 (k + 2) (numsP k o im) ∧ Below w1.heap.size w1 wr ∧ gg < wr.heap.size) (fun _ iv _ => k + 2 - (intOf iv).toNat)
        case atStart =>
          exact ⟨1, _, arg, by omega, by omega, rfl, rfl, by simp [upd], hI5.alloc _, hP5.same (fun q => World.cell?_alloc_old (a := ⟨gg, q, none⟩) _ _ (by simp; omega)), hB5.alloc hB5.size _, by simp; omega⟩
        case round =>
          obtain ⟨q, r, x, hq1, hqk, rfl, rfl, hrx, hI, hP, hB, hgl2⟩ := hrel
          clear hI5 hP5 hB5 hk5 hr1
          have q0 : (0 : Int) ≤ (q : Int) := Int.natCast_nonneg _
          by_cases hqk1 : q < k + 1
          · obtain ⟨⟨o0, o1⟩, i0', i1'⟩ := HR.out (q - 1) (by omega)
            obtain ⟨c, hc⟩ : ∃ c : Int, c = 1 + o (q - 1) % 11 := ⟨_, rfl⟩
            obtain ⟨im', him⟩ : ∃ i : Int, i = im (q - 1) := ⟨_, rfl⟩
            have hx : numsP k o im q = ⟨4, 0, 0, c, im'⟩ := by
              obtain ⟨j, rfl⟩ : ∃ j, q = j + 1 := ⟨q - 1, by omega⟩
              rw [numsP_mid k o im j (by omega), hc, him]; rfl
            have hc0 : 1 ≤ c := by omega
            have hc1 : c ≤ 11 := by omega
            rw [← him] at i0' i1'
            obtain ⟨v', hv⟩ := aluDo_ex c hc0 hc1 x im' i0' (by omega)
            have HV0 := Lib.hid hv
            have HV := Lib.hid fun w => (hv w).mono fun e w' h => (⟨h.1, h.2.symm⟩ : e = .returned (.tuple #[.int .u64 v', .int .i64 0]) ∧ w' = w)
            obtain ⟨-, -, -, p3, p4⟩ := hP q (by omega)
            rw [hx] at p3 p4
            simp only [Nat.zero_add] at p3 p4
            have nn3 := World.new_ne wr _ p3
            have HX := Lib.hid hx
            have HP := Lib.hid hP
            have HI' := Lib.hid hI
            clear hv hc him o0 o1 hx hP hI
            have EC := Lib.hid (show IntKind.i64.wrap c = c by simp [IntKind.wrap, IntKind.bits, IntKind.signed]; omega)
            have EI := Lib.hid (show IntKind.u64.wrap im' = im' by simp [IntKind.wrap, IntKind.bits, IntKind.signed]; omega)
            have q1 : (q : Int) < (k : Int) + 1 + 1 := by omega
            have q2 : (q : Int) < (k : Int) + 1 := by omega
            go_wp2_with fail
            go_region_held3 (fun w' => w'.cell? ⟨gg, q * 5 + 3, none⟩ = some (.int .u8 c) ∧ w'.cell? ⟨gg, q * 5 + 4, none⟩ = some (.int .u32 im')) (go_keep)
              ((go_at_call 10; (try rw [EC.out]); (try rw [EI.out]); go_must (refine (HV.out _).mono ?_); rintro e w' ⟨rfl, rfl⟩))
            go_wp2_with fail
            refine (nums_2 bi bp cp k q hm3 (by omega) o im c im' x v' r t0 hrx i0' i1' hc0 hc1 HX.out HV0.out _ _ (by first | exact HI'.out.drew | exact HI'.out.drewN _)).mono ?_
            rintro e w6 ⟨rfl, hI6, hk6⟩
            have HI6 := Lib.hid hI6
            have hk6s := hk6.size
            have HK6 := Lib.hid hk6
            clear hI6 hk6
            go_wp2_with fail
            have hBr : Below w1.heap.size w1 w6 := hB.drew.trans (HK6.out.below (by simp; have := hB.size; omega) (fun j hj => by omega))
            have hPr : HasProg w6 gg 0 (k + 2) (numsP k o im) := HP.out.same (fun z => HK6.out.cell (a := wr.drew) (p := ⟨gg, z, none⟩) hgl2 hne)
            refine ⟨⟨q + 1, _, v', by omega, by omega, by simp, rfl, ?_, HI6.out.alloc _, ?_, hBr.alloc hBr.size _, ?_⟩, by simp [intOf]; omega⟩
            · simp [upd]
            · exact hPr.same (fun z => World.cell?_alloc_old (a := ⟨gg, z, none⟩) _ _ (by have := HK6.out.size; simp at this; simp; omega))
            · have := HK6.out.size; simp at this; simp; omega
          · obtain rfl : q = k + 1 := by omega
            have HP := Lib.hid hP
            have HI' := Lib.hid hI
            clear hP hI
            go_wp2_with fail
            refine (nums_3 bi bp cp k hm3 o im x r t0 hrx _ _ HI'.out).mono ?_
            rintro e w6 ⟨rfl, hI6, hk6⟩
            have c21 : w6.cell? ⟨bi, 21, none⟩ = some (.bool false) := (cell_of_heap hI6.block).trans rfl
            have lb := lt_of_heap hI6.block
            have hk6s := hk6.size
            have HK6 := Lib.hid hk6
            clear hI6 hk6
            have HD := Lib.hid (fun w h => (done_any bi false w h).mono fun e w' h => (⟨h.1, h.2.symm⟩ : e = .returned (.bool true) ∧ w' = w))
            go_wp2_with fail
            refine (HD.out _ ((World.cell?_alloc_old (a := ⟨bi, 21, none⟩) _ _ (Nat.ne_of_lt lb)).trans c21)).mono ?_
            rintro e w7 ⟨rfl, rfl⟩
            go_wp2_with fail
            refine bodyPost_ret (v := .bool true) (by simp [results, Tryz.results3, go_sem]) rfl ⟨rfl, ?_⟩
            have hBr : Below w1.heap.size w1 w6 := hB.trans (HK6.out.below hB.size (fun j hj => by omega))
            exact HB1.out.trans ((hBr.alloc hBr.size _).mono hs1)
end Go.Proofs.YtkkfacgbfjmckaaGreatDoor
