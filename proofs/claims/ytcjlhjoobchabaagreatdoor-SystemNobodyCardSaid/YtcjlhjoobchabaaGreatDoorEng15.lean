/- The engine, 15: append. -/
import Derived.Test.YtcjlhjoobchabaaGreatDoorEng14
namespace Go.Proofs.YtcjlhjoobchabaaGreatDoor
open Go.RowKit
set_option linter.unusedVariables false
set_option linter.unusedSimpArgs false
variable {η : Nat → Int} {L L' : LM} {W0 : Base} {w : World} {σ σ' : H}

noncomputable def bytesA (l : List UInt8) : AV := List.rec .nil (fun b _ ih => fnat b.toNat fun n => .cons (.int .u8 (Int.ofNat n)) ih) l
theorem bytesA_DL : ∀ (l : List UInt8), DL η L (bytesA l) (l.map fun b => .int .u8 b.toNat)
  | [] => rfl
  | b :: l => by
    have e : bytesA (b :: l) = .cons (.int .u8 (Int.ofNat b.toNat)) (bytesA l) := by
      show fnat b.toNat (fun n => AV.cons (.int .u8 (Int.ofNat n)) (bytesA l)) = _
      rw [fnat_eq]
    rw [e]
    exact DL_cons rfl (bytesA_DL l)
/-- What is appended. -/
noncomputable def asrcK {β : Type} (σ : H) (size : Nat) (x : AV) (k : Nat → AV → Option β) : Option β := match x with
  | .nslice => k (nat_lit 0) .nil
  | .slice o off n _ => lookO σ o fun y => (match y with | .cells c d N _ _ => tst (Nat.ble (Nat.add off (Nat.mul n size)) N) (rdK c d (Nat.mul n size) off fun l => k n l) | _ => none)
  | .vslice o off n _ _ => lookO σ o fun y => (match y with | .cells c d N _ _ => tst (Nat.ble (Nat.add off (Nat.mul n size)) N) (rdK c d (Nat.mul n size) off fun l => k n l) | _ => none)
  | .eslice _ _ _ _ => k (nat_lit 0) .nil
  | .str s => tst (Nat.beq size (nat_lit 1)) (fnat s.size fun n => k n (bytesA s.data.toList))
  | _ => none
theorem run_firstCells_rd {P : Program} {w w' : World} {b off n size : Nat} {cap : Nat} {C : Array Value} {t : TypeId} {Vs : List Value} (k1 : w.heap[b]? = some (.cells C t (0, 0))) (hlen : Vs.length = n * size) (hj : ∀ j, j < n * size → C[off + j]? = Vs[j]?) (hw : w'.heap = w.heap) :
    (Builtin.firstCells size n (.slice (some ⟨b, off, none⟩) n cap)).run P w' = .ok Vs.toArray w' := by
  refine run_firstCells_some w' size n _ n cap Vs hlen (fun j v hv => ?_)
  have hjn := (List.getElem?_eq_some_iff.1 hv).1
  rw [add_addr, cell_of_heap (by rw [hw]; exact k1), hj j (by omega), hv]
theorem asrcK_some {β : Type} {P : Program} {size : Nat} {x : AV} {X : Value} {k : Nat → AV → Option β} {r : β} (h : asrcK σ size x k = some r) (hx : D η L x X) (hR : Rel W0 η L σ w) :
    ∃ n l news, k n l = some r ∧ DL η L l news ∧ news.length = n * size ∧ (∀ v ∈ news, v.oneCell' = true) ∧ (∀ w', (Builtin.lenOf X).run P w' = .ok n w') ∧ ∀ w', w'.heap = w.heap → (Builtin.firstCells size n X).run P w' = .ok news.toArray w' := by
  cases x with
  | nslice =>
    cases hx
    exact ⟨0, .nil, [], h, DL_nil, by simp, fun v hv => (by cases hv), fun w' => by simp [Builtin.lenOf, Sem.run_pure], fun w' _ => run_firstCells_none w' size 0 0 0⟩
  | eslice o ov cv q =>
    obtain ⟨b, off, c, _, _, _, rfl⟩ := D_eslice hx
    exact ⟨0, .nil, [], h, DL_nil, by simp, fun v hv => (by cases hv), fun w' => by simp [Builtin.lenOf, Sem.run_pure], fun w' _ => run_firstCells_some w' size 0 _ 0 (c - q) [] (by simp) (fun j v hv => by cases hv)⟩
  | slice o off n cap =>
    obtain ⟨b, hb, rfl⟩ := D_slice hx
    obtain ⟨y, hy, h⟩ := lookO_some h
    cases y with
    | cells c d N capx t =>
      obtain ⟨hle, h⟩ := tst_some h
      obtain ⟨hB, C, k1, k2, k3, k4⟩ := hR.block hy hb
      obtain ⟨l, Vs, hl, he, hlen, hj, ho⟩ := rdK_some (c := c) (d := d) (N := N) (C := C) k4 (n := n * size) (off := off) (k := fun l => k n l) (Nat.le_of_ble_eq_true hle)
      exact ⟨n, l, Vs, he.symm.trans h, hl, hlen, ho, fun w' => by simp [Builtin.lenOf, Sem.run_pure], fun w' hw => run_firstCells_rd k1 hlen hj hw⟩
    | _ => cases h
  | vslice o off n cv q =>
    obtain ⟨b, cp, hb, _, _, rfl⟩ := D_vslice hx
    obtain ⟨y, hy, h⟩ := lookO_some h
    cases y with
    | cells c d N capx t =>
      obtain ⟨hle, h⟩ := tst_some h
      obtain ⟨hB, C, k1, k2, k3, k4⟩ := hR.block hy hb
      obtain ⟨l, Vs, hl, he, hlen, hj, ho⟩ := rdK_some (c := c) (d := d) (N := N) (C := C) k4 (n := n * size) (off := off) (k := fun l => k n l) (Nat.le_of_ble_eq_true hle)
      exact ⟨n, l, Vs, he.symm.trans h, hl, hlen, ho, fun w' => by simp [Builtin.lenOf, Sem.run_pure], fun w' hw => run_firstCells_rd k1 hlen hj hw⟩
    | _ => cases h
  | str s =>
    cases hx
    obtain ⟨hs, h⟩ := tst_some h
    have := Nat.eq_of_beq_eq_true hs
    subst this
    have h' : k s.size (bytesA s.data.toList) = some r := by
      have := ‹(fnat s.size fun n => k n (bytesA s.data.toList)) = some r›
      rwa [fnat_eq] at this
    refine ⟨s.size, _, _, h', bytesA_DL s.data.toList, ?_, ?_, fun w' => by simp [Builtin.lenOf, Sem.run_pure], fun w' _ => ?_⟩
    · have e : s.data.toList.length = s.size := Array.length_toList
      simp [e]
    · intro v hv
      simp only [List.mem_map] at hv
      obtain ⟨b, _, rfl⟩ := hv; rfl
    · have e : s.extract 0 s.size = s := by simp
      simp only [Builtin.firstCells, e, Sem.run_pure]
      congr 1
      apply Array.toList_inj.1
      simp
  | _ => cases h

section
variable {P : Program} {ats : Array TypeId} {ty t e : TypeId} {i : TypeInfo} {Z : Value} {args : Array Value} {base : Option Addr} {len cap n size : Nat} {X : Value} {news : List Value}
def NoInt (P : Program) (ats : Array TypeId) : Prop := ∃ xT, ats[1]? = some xT ∧ ((∃ q, P.underlying xT = some (.slice q)) ∨ P.underlying xT = some .string)
set_option maxHeartbeats 1000000 in
theorem run_append_in (h0 : ats[0]? = some t) (hd : P.underlying t = some (.slice e)) (hi : P.info? e = some i) (hN : NoInt P ats) (ha : args[0]? = some (.slice base len cap)) (hx : args[1]? = some X)
    (hl : ∀ w', (Builtin.lenOf X).run P w' = .ok n w') (hf : (Builtin.firstCells i.size n X).run P w = .ok news.toArray w) (hfit : len + n ≤ cap) {w' : World} (hst : (match base with | some a => storeCells (a.add (len * i.size)) news | none => pure ()).run P w = .ok () w') :
    (Builtin.append_ ats ty args).run P w = .ok (.slice base (len + n) cap) w' := by
  have hs : P.cellsOf e = i.size := by simp [Program.cellsOf, hi]
  obtain ⟨xT, h1, ⟨q, hdx⟩ | hdx⟩ := hN
  · cases base with
    | none => simp at hst; subst hst; simp [Builtin.append_, h0, ha, hx, h1, run_underlying hd, run_underlying hdx, run_sizeOf w hi, hs, hl, hf, hfit]
    | some a => simp at hst; simp [Builtin.append_, h0, ha, hx, h1, run_underlying hd, run_underlying hdx, run_sizeOf w hi, hs, hl, hf, hfit, hst]
  · cases base with
    | none => simp at hst; subst hst; simp [Builtin.append_, h0, ha, hx, h1, run_underlying hd, run_underlying hdx, run_sizeOf w hi, hs, hl, hf, hfit]
    | some a => simp at hst; simp [Builtin.append_, h0, ha, hx, h1, run_underlying hd, run_underlying hdx, run_sizeOf w hi, hs, hl, hf, hfit, hst]
set_option maxHeartbeats 1000000 in
theorem run_append_new {olds : List Value} (h0 : ats[0]? = some t) (hd : P.underlying t = some (.slice e)) (hi : P.info? e = some i) (hZ : i.zero = some Z) (hN : NoInt P ats) (ha : args[0]? = some (.slice base len cap)) (hx : args[1]? = some X)
    (hl : ∀ w', (Builtin.lenOf X).run P w' = .ok n w') (hf : ∀ w', w'.heap = w.heap → (Builtin.firstCells i.size n X).run P w' = .ok news.toArray w') (hold : ∀ w', w'.heap = w.heap → (Builtin.firstCells i.size len (.slice base len cap)).run P w' = .ok olds.toArray w')
    (hfit : cap < len + n) (hb : (len + n) * i.bytes ≤ 140737488355328) (h63 : len + n ≤ 4294967296) :
    (Builtin.append_ ats ty args).run P w = .ok (.slice (some ⟨w.heap.size, 0, none⟩) (len + n) (grownCap w (len + n) cap e)) (w.drew.alloc (.cells (olds.toArray ++ (news.toArray ++ Builtin.zeroCells Z.cells (grownCap w (len + n) cap e - (len + n)))) e)) := by
  have hs : P.cellsOf e = i.size := by simp [Program.cellsOf, hi]
  have hg := growslice_fits hfit hb
  have hn1 : ¬ (len + n ≤ cap) := by omega
  have hn2 : ¬ ((9223372036854775807 : Int) < (len : Int) + (n : Int)) := by omega
  have hn3 : ¬ (281474976710656 < Builtin.nextslicecap (len + n) cap * i.bytes) := by omega
  have hd1 := hf w.drew rfl
  have hd2 := hold w.drew rfl
  clear hf hold
  obtain ⟨xT, h1, ⟨q, hdx⟩ | hdx⟩ := hN
  · simp [Builtin.append_, h0, ha, hx, h1, run_underlying hd, run_underlying hdx, run_sizeOf w hi, hs, hl, hn1, hn2, hn3, run_typeInfo w hi, run_typeInfo w.drew hi, hd1, hd2, run_zero hi hZ, IntKind.max, IntKind.signed, IntKind.bits, Question.forced, grownCap, newRow]
  · simp [Builtin.append_, h0, ha, hx, h1, run_underlying hd, run_underlying hdx, run_sizeOf w hi, hs, hl, hn1, hn2, hn3, run_typeInfo w hi, run_typeInfo w.drew hi, hd1, hd2, run_zero hi hZ, IntKind.max, IntKind.signed, IntKind.bits, Question.forced, grownCap, newRow]
end
theorem le_grownCap (w : World) (need old : Nat) (e : TypeId) : need ≤ grownCap w need old e := by
  unfold grownCap; simp [Question.cut]
end Go.Proofs.YtcjlhjoobchabaaGreatDoor
