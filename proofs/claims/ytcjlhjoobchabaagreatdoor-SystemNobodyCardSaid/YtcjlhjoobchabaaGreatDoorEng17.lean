/- The engine, 17: append does as told. -/
import Derived.Test.YtcjlhjoobchabaaGreatDoorEng16
namespace Go.Proofs.YtcjlhjoobchabaaGreatDoor
open Go.RowKit
set_option linter.unusedVariables false
set_option linter.unusedSimpArgs false
variable {η : Nat → Int} {L L' : LM} {W0 : Base} {w : World} {σ σ' : H}

theorem grown_obj2 {need size cap : Nat} {e : TypeId} {all : AV} {Vs : List Value} {β : Type} {k : T AV → Option β} {r : β} {b' : Nat} (hw : wrK (need * size) all 0 .nil k = some r) (hl : DL η L all Vs) (hL : LM.Le L L') {cv : Nat} (hcv : L'[cv]? = some cap)
    {w' : World} {C : Array Value} (hb : w'.heap[b']? = some (.cells C e (0, 0))) (hsz : C.size = cap * size) (hle : need * size ≤ C.size) (hC : ∀ j, j < need * size → C[j]? = Vs[j]?) :
    ∃ c, k c = some r ∧ ObjAt η L' w' b' (.cells c undefA (need * size) (some (cv, size)) e) := by
  obtain ⟨c', hk, hlen, hi, _⟩ := toT_known hw hl
  refine ⟨c', hk, C, hb, hle, ⟨cap, hcv, hsz⟩, fun j hj => ?_⟩
  obtain ⟨v, V, h1, h2, h3, h4⟩ := hi j hj
  rw [Nat.zero_add] at h1
  exact ⟨V, by rw [h1]; exact h2.mono hL, by rw [hC j hj]; exact h3, h4⟩
theorem Kept.setRow {w : World} {b : Nat} (cs : Array Value) : Kept (fun k => k = b) w (w.setRow b cs) :=
  ⟨rfl, rfl, rfl, by simp [World.setRow], fun k hk hne => by simp [World.setRow, Array.getElem?_modify, Ne.symm hne]⟩
theorem vslice_D' {o b len cv c : Nat} (hb : L[o]? = some b) (hc : L[cv]? = some c) (hle : len ≤ c) : D η L (.vslice o 0 len cv 0) (.slice (some ⟨b, 0, none⟩) len c) := vslice_D (k := 0) hb hc hle

/-- A new row, whatever room the world chose. -/
theorem grow_new {P : Program} {need size : Nat} {e : TypeId} {all r : AV} {Vs : List Value} {Z : Array Value} (hR : Rel W0 η L σ w) (h : growK all (need * size) need size e σ (fun v σ' => some (v, σ')) = some (r, σ')) (hl : DL η L all Vs) (hlen : Vs.length = need * size) (hZ : Z.size = size) (old : Nat) {X : Sem Value}
    (hrun : X.run P w = .ok (.slice (some ⟨w.heap.size, 0, none⟩) need (grownCap w need old e)) (w.drew.alloc (.cells (Vs.toArray ++ Builtin.zeroCells Z (grownCap w need old e - need)) e))) : Did P W0 η L w (do pure (Next.value (← X))) r σ' := by
  rw [growK_eq] at h
  have hcap := le_grownCap w need old e
  generalize grownCap w need old e = cap at *
  have hzs : (Builtin.zeroCells Z (cap - need)).size = (cap - need) * size := by simp [Builtin.zeroCells, hZ]
  have hmul : need * size + (cap - need) * size = cap * size := by rw [← Nat.add_mul]; congr 1; omega
  have hR' := hR.drew
  have hb : (w.drew.alloc (.cells (Vs.toArray ++ Builtin.zeroCells Z (cap - need)) e)).heap[w.heap.size]? = some (.cells (Vs.toArray ++ Builtin.zeroCells Z (cap - need)) e (0, 0)) := heap_alloc_at (w := w.drew) _
  have hcv : ((L.ext σ.nx w.heap.size).ext (σ.nx + 1) cap)[σ.nx + 1]? = some cap := LM.ext_at ..
  obtain ⟨c, hk, hO⟩ := grown_obj2 (L' := (L.ext σ.nx w.heap.size).ext (σ.nx + 1) cap) h hl (hR.ext2_le _ _) hcv hb (by simp [hlen, hzs, hmul]) (by simp [hlen, hzs]) (fun j hj => by rw [Array.getElem?_append_left (by simp [hlen]; exact hj)]; simp)
  cases hk
  obtain ⟨h1, h2, h3⟩ := hR'.grow (b' := w.heap.size) (cap := cap) (Kept.allocNew (w := w.drew) _) hR.fresh hO (fresh_block hR)
  exact ⟨_, _, _, hR.ext2_le _ _, h1, vslice_D' h2 h3 hcap, .inl (run_val' hrun)⟩

theorem rdK_some' {c : T AV} {d : AV} {N : Nat} {C : Array Value} (hC : Known η L c d N C) : ∀ {n off : Nat} {β : Type} {k : AV → β}, off + n ≤ N →
    ∃ l Vs, DL η L l Vs ∧ spineA l = true ∧ rdK c d n off k = k l ∧ Vs.length = n ∧ (∀ j, j < n → C[off + j]? = Vs[j]?) ∧ ∀ v ∈ Vs, v.oneCell' = true
  | 0, off, β, k, h => ⟨.nil, [], DL_nil, rfl, rfl, rfl, fun j hj => by omega, fun v hv => by cases hv⟩
  | n + 1, off, β, k, h => by
    obtain ⟨V, hV, hc, h1⟩ := hC off (by omega)
    obtain ⟨l, Vs, hl, hs, he, hlen, hj, ho⟩ := rdK_some' hC (n := n) (off := off + 1) (k := fun r => k (.cons ((c.get off).getD d) r)) (by omega)
    refine ⟨_, V :: Vs, DL_cons hV hl, by simpa [spineA] using hs, (rdK_succ c d n off k).trans he, by simp [hlen], fun j hjn => ?_, fun v hv => ?_⟩
    · cases j with
      | zero => simpa using hc
      | succ j => rw [show off + (j + 1) = off + 1 + j by omega, hj j (by omega)]; simp
    · rcases List.mem_cons.1 hv with rfl | hv
      · exact h1
      · exact ho v hv
theorem aappend_some {C : Cfg} {ats : Array TypeId} {ty : TypeId} {args : Array Value} {s x r : AV} {S X : Value} (h : aappend C ats.toList σ s x = some (r, σ')) (hs : D η L s S) (hx : D η L x X) (hR : Rel W0 η L σ w) (ha : args[0]? = some S) (hb : args[1]? = some X) :
    Did C.P W0 η L w (do pure (Next.value (← Builtin.append_ ats ty args))) r σ' := by
  obtain ⟨t, ht, h⟩ := ob_some h
  obtain ⟨d, hd, h⟩ := ob_some h
  obtain ⟨hN, h⟩ := tst_some h
  have hN := noIntA_true hN
  rw [lget_eq] at ht
  have h0 : ats[0]? = some t := by simpa using ht
  cases d with
  | slice e =>
    obtain ⟨i, hi, h⟩ := ob_some h
    rw [fnat_eq] at h
    obtain ⟨hpos, h⟩ := tst_some h
    obtain ⟨z, hz, h⟩ := ob_some h
    obtain ⟨hzl, h⟩ := tst_some h
    obtain ⟨hzk, h⟩ := tst_some h
    obtain ⟨inf, Z, hinf, hZ, hzD⟩ := azero_some (η := η) (L := L) hz
    have : inf = i := by rw [hinf] at hi; cases hi; rfl
    subst this
    have hzc := cellsA_some hzk hzD
    have hzsz : Z.cells.size = inf.size := by simpa using isLen_true hzl hzc
    have hpos := blt_true hpos
    obtain ⟨n, l, news, h, hl, hnl, hone, hlen, hfirst⟩ := asrcK_some (P := C.P) h hx hR
    have hs0 : C.P.cellsOf e = inf.size := by simp [Program.cellsOf, hi]
    cases s with
    | nslice =>
      cases hs
      rw [bcase_beq] at h
      by_cases hn : n = 0
      · subst hn
        rw [if_pos rfl] at h
        cases h
        refine ⟨L, w, .slice none 0 0, LM.Le.refl _, hR, rfl, .inl (run_val' ?_)⟩
        exact run_append_in h0 hd hi hN ha hb hlen (hfirst w rfl) (Nat.le_refl _) (by simp)
      · rw [if_neg hn] at h
        obtain ⟨h1, h⟩ := tst_some h
        obtain ⟨h2, h⟩ := tst_some h
        have h1 : n * inf.bytes ≤ 140737488355328 := Nat.le_of_ble_eq_true h1
        have h2 : n ≤ 4294967296 := Nat.le_of_ble_eq_true h2
        have hrun := run_append_new (w := w) (ty := ty) (olds := []) h0 hd hi hZ hN ha hb hlen hfirst (fun w' _ => run_firstCells_none w' _ _ _ _) (by omega) (by rw [Nat.zero_add]; exact h1) (by omega)
        simp only [Nat.zero_add] at hrun
        have e1 : (([] : List Value).toArray ++ (news.toArray ++ Builtin.zeroCells Z.cells (grownCap w n 0 e - n))) = news.toArray ++ Builtin.zeroCells Z.cells (grownCap w n 0 e - n) := by simp
        rw [e1] at hrun
        exact grow_new (Z := Z.cells) hR h hl hnl hzsz 0 hrun
    | slice o off len cap =>
      obtain ⟨b, hbl, rfl⟩ := D_slice hs
      dsimp only at h
      rw [fnat_eq] at h
      obtain ⟨y, hy, h⟩ := lookO_some h
      cases y with
      | cells c d N cx et =>
        obtain ⟨hB, A, k1, k2, k3, k4⟩ := hR.block hy hbl
        dsimp only at h
        cases hfit : Nat.ble (Nat.add len n) cap
        · rw [hfit, bcase_false] at h
          obtain ⟨h3, h⟩ := tst_some h
          obtain ⟨h1, h⟩ := tst_some h
          obtain ⟨h2, h⟩ := tst_some h
          have h3 : off + len * inf.size ≤ N := Nat.le_of_ble_eq_true h3
          have h1 : (len + n) * inf.bytes ≤ 140737488355328 := Nat.le_of_ble_eq_true h1
          have h2 : len + n ≤ 4294967296 := Nat.le_of_ble_eq_true h2
          obtain ⟨olds, Os, hol, hos, hoe, hoLen, hoj, hoo⟩ := rdK_some' (c := c) (d := d) (N := N) (C := A) k4 (n := len * inf.size) (off := off) (k := fun olds => tst (spineA olds) (growK (appA olds l) (Nat.mul (Nat.add len n) inf.size) (Nat.add len n) inf.size e σ fun v σ' => some (v, σ'))) h3
          rw [show rdK c d (Nat.mul len inf.size) off (fun olds => tst (spineA olds) (growK (appA olds l) (Nat.mul (Nat.add len n) inf.size) (Nat.add len n) inf.size e σ fun v σ' => some (v, σ'))) = _ from hoe] at h
          obtain ⟨_, h⟩ := tst_some h
          have hgt : cap < len + n := by
            have : ¬ len + n ≤ cap := fun hle => by rw [Nat.ble_eq_true_of_le (show Nat.add len n ≤ cap from hle)] at hfit; cases hfit
            omega
          have hrun := run_append_new (w := w) (ty := ty) (olds := Os) h0 hd hi hZ hN ha hb hlen hfirst (fun w' hw => run_firstCells_rd k1 hoLen hoj hw) hgt h1 h2
          have hall := appA_spine hos hol hl
          have e1 : Os.toArray ++ (news.toArray ++ Builtin.zeroCells Z.cells (grownCap w (len + n) cap e - (len + n))) = (Os ++ news).toArray ++ Builtin.zeroCells Z.cells (grownCap w (len + n) cap e - (len + n)) := Array.toList_inj.1 (by simp)
          rw [e1] at hrun
          exact grow_new (Z := Z.cells) hR h hall (by simp [hoLen, hnl, Nat.add_mul]) hzsz cap hrun
        · rw [hfit, bcase_true] at h
          obtain ⟨h3, h⟩ := tst_some h
          have h3 : off + (len + n) * inf.size ≤ N := Nat.le_of_ble_eq_true h3
          have hle : len + n ≤ cap := Nat.le_of_ble_eq_true hfit
          have hmul : (len + n) * inf.size = len * inf.size + n * inf.size := Nat.add_mul _ _ _
          obtain ⟨_, c', w', hk, hrun, hR2⟩ := wrK_some (P := C.P) (n := n * inf.size) (off0 := off + len * inf.size) (i := 0) h hl hR hy hbl (by omega)
          rw [layK_eq] at hk
          cases hk
          refine ⟨L, w', .slice (some ⟨b, off, none⟩) (len + n) cap, LM.Le.refl _, hR2, slice_D hbl, .inl (run_val' ?_)⟩
          exact run_append_in h0 hd hi hN ha hb hlen (hfirst w rfl) hle (by simp only [add_addr]; exact hrun)
      | _ => cases h
    | vslice o off len cv k =>
      obtain ⟨b, q, hbl, hcv, hlq, rfl⟩ := D_vslice hs
      dsimp only at h
      rw [fnat_eq] at h
      obtain ⟨ho, h⟩ := tst_some h
      obtain ⟨hk0, h⟩ := tst_some h
      have := Nat.eq_of_beq_eq_true ho; subst this
      have := Nat.eq_of_beq_eq_true hk0; subst this
      obtain ⟨y, hy, h⟩ := lookO_some h
      cases y with
      | cells c d N cx et =>
        obtain ⟨⟨cv', sz⟩, hcx, h⟩ := ob_some h
        subst hcx
        obtain ⟨e1, h⟩ := tst_some h
        obtain ⟨e2, h⟩ := tst_some h
        obtain ⟨e3, h⟩ := tst_some h
        have := Nat.eq_of_beq_eq_true e1; subst this
        have := Nat.eq_of_beq_eq_true e2; subst this
        have := Nat.eq_of_beq_eq_true e3; subst this
        obtain ⟨hB, A, k1, k2, ⟨q', hq', hsz⟩, k4⟩ := hR.block hy hbl
        have : q' = q := by have := hq'.symm.trans hcv; simpa using this
        subst this
        rw [Nat.sub_zero] at hlq ha
        have hmul : (len + n) * inf.size = len * inf.size + n * inf.size := Nat.add_mul _ _ _
        cases hfit : Nat.ble (Nat.mul (Nat.add len n) inf.size) N
        · rw [hfit, bcase_false] at h
          obtain ⟨h3, h⟩ := tst_some h
          obtain ⟨h1, h⟩ := tst_some h
          obtain ⟨h2, h⟩ := tst_some h
          have h3 : 0 + len * inf.size ≤ N := by rw [Nat.zero_add]; exact Nat.le_of_ble_eq_true h3
          have h1 : (len + n) * inf.bytes ≤ 140737488355328 := Nat.le_of_ble_eq_true h1
          have h2 : len + n ≤ 4294967296 := Nat.le_of_ble_eq_true h2
          obtain ⟨olds, Os, hol, hos, hoe, hoLen, hoj, hoo⟩ := rdK_some' (c := c) (d := d) (N := N) (C := A) k4 (n := len * inf.size) (off := 0) (k := fun olds => tst (spineA olds) (layK o none σ fun σ1 => growK (appA olds l) (Nat.mul (Nat.add len n) inf.size) (Nat.add len n) inf.size et σ1 fun v σ' => some (v, σ'))) h3
          rw [show rdK c d (Nat.mul len inf.size) 0 (fun olds => tst (spineA olds) (layK o none σ fun σ1 => growK (appA olds l) (Nat.mul (Nat.add len n) inf.size) (Nat.add len n) inf.size et σ1 fun v σ' => some (v, σ'))) = _ from hoe] at h
          obtain ⟨_, h⟩ := tst_some h
          rw [layK_eq] at h
          have hall := appA_spine hos hol hl
          have hallen : (Os ++ news).length = (len + n) * inf.size := by simp [hoLen, hnl, Nat.add_mul]
          have hRk := hR.kill o
          by_cases hle : len + n ≤ q'
          · -- there was room
            rw [growK_eq] at h
            have hAs : (len + n) * inf.size ≤ A.size := by rw [hsz]; exact Nat.mul_le_mul_right _ hle
            have hst := run_storeCells_at (P := C.P) b (len * inf.size) et news 0 A w k1 (by omega) hone
            simp only [Nat.add_zero] at hst
            have hlA : A.toList.length = A.size := Array.length_toList
            generalize hC' : (A.toList.take (len * inf.size) ++ news ++ A.toList.drop (len * inf.size + news.length)).toArray = C' at hst
            have hC's : C'.size = q' * inf.size := by
              rw [← hC']; simp; omega
            have hblk : (w.setRow b C').heap[b]? = some (.cells C' et (0, 0)) := setRow_heap w b A C' et (0, 0) k1
            have hpt : ∀ j, j < (len + n) * inf.size → C'[j]? = (Os ++ news)[j]? := by
              intro j hj
              rw [← hC', List.getElem?_toArray, List.append_assoc]
              by_cases hj1 : j < len * inf.size
              · rw [List.getElem?_append_left (by simp; omega), List.getElem?_append_left (by omega), List.getElem?_take_of_lt hj1]
                have := hoj j hj1
                rw [Nat.zero_add] at this
                simpa using this
              · have el : (A.toList.take (len * inf.size)).length = len * inf.size := by simp; omega
                rw [List.getElem?_append_right (l₁ := A.toList.take (len * inf.size)) (by omega), el, List.getElem?_append_left (by omega), List.getElem?_append_right (l₁ := Os) (by omega), hoLen]
            have hcv2 : ((L.ext σ.nx b).ext (σ.nx + 1) q')[σ.nx + 1]? = some q' := LM.ext_at ..
            obtain ⟨c2, hk, hO⟩ := grown_obj2 (L' := (L.ext σ.nx b).ext (σ.nx + 1) q') h hall (hR.ext2_le _ _) hcv2 hblk hC's (show (len + n) * inf.size ≤ C'.size by omega) hpt
            cases hk
            obtain ⟨g1, g2, g3⟩ := hRk.grow (b' := b) (cap := q') (Kept.setRow (w := w) C') hB hO (fun o' y' hy' hb' => by
              dsimp only at hy'
              rw [T.get_set] at hy'
              by_cases e : o' = o
              · rw [if_pos e] at hy'; cases hy'
              · rw [if_neg e] at hy'; exact e (hR.inj _ _ _ _ _ hy' hy hb' hbl))
            refine ⟨_, _, _, hR.ext2_le _ _, g1, vslice_D' g2 g3 hle, .inl (run_val' ?_)⟩
            exact run_append_in h0 hd hi hN ha hb hlen (hfirst w rfl) hle (by simp only [add_addr, Nat.zero_add]; exact hst)
          · have hrun := run_append_new (w := w) (ty := ty) (olds := Os) h0 hd hi hZ hN ha hb hlen hfirst (fun w' hw => run_firstCells_rd k1 hoLen hoj hw) (by omega) h1 h2
            have e1 : Os.toArray ++ (news.toArray ++ Builtin.zeroCells Z.cells (grownCap w (len + n) q' et - (len + n))) = (Os ++ news).toArray ++ Builtin.zeroCells Z.cells (grownCap w (len + n) q' et - (len + n)) := Array.toList_inj.1 (by simp)
            rw [e1] at hrun
            exact grow_new (Z := Z.cells) hRk h hall hallen hzsz q' hrun
        · rw [hfit, bcase_true] at h
          have h3 : (len + n) * inf.size ≤ N := Nat.le_of_ble_eq_true hfit
          have hle : len + n ≤ q' := by
            have : (len + n) * inf.size ≤ q' * inf.size := by omega
            exact Nat.le_of_mul_le_mul_right this hpos
          obtain ⟨_, c', w', hk, hrun, hR2⟩ := wrK_some (P := C.P) (n := n * inf.size) (off0 := len * inf.size) (i := 0) (by rw [Nat.add_zero]; exact h) hl hR hy hbl (by omega)
          rw [layK_eq] at hk
          cases hk
          refine ⟨L, w', .slice (some ⟨b, 0, none⟩) (len + n) q', LM.Le.refl _, hR2, vslice_D' hbl hcv hle, .inl (run_val' ?_)⟩
          exact run_append_in h0 hd hi hN ha hb hlen (hfirst w rfl) hle (by simp only [add_addr, Nat.zero_add]; exact hrun)
      | _ => cases h
    | _ => cases h
  | _ => cases h
end Go.Proofs.YtcjlhjoobchabaaGreatDoor
