/- The engine, 16: append, told; rows and maps cleared; the empty end of a row. -/
import Derived.Test.YtcjlhjoobchabaaGreatDoorEng15
namespace Go.Proofs.YtcjlhjoobchabaaGreatDoor
open Go.RowKit
set_option linter.unusedVariables false
set_option linter.unusedSimpArgs false
variable {η : Nat → Int} {L L' : LM} {W0 : Base} {w : World} {σ σ' : H}

noncomputable def noIntA (P : Program) (ats : List TypeId) : Bool := Option.rec false (fun t => Option.rec false (fun d => match d with | .slice _ => true | .string => true | _ => false) (P.underlying t)) (lget ats (nat_lit 1))
theorem noIntA_true {P : Program} {ats : Array TypeId} (h : noIntA P ats.toList = true) : NoInt P ats := by
  unfold noIntA at h
  rw [lget_eq] at h
  cases h1 : ats.toList[1]? with
  | none => rw [h1] at h; cases h
  | some t =>
    rw [h1] at h
    dsimp only at h
    refine ⟨t, by simpa using h1, ?_⟩
    cases hd : P.underlying t with
    | none => rw [hd] at h; cases h
    | some d =>
      rw [hd] at h
      cases d <;> first | exact .inl ⟨_, rfl⟩ | exact .inr rfl | cases h
/-- A row grown: news behind the first (len * size) cells, in a block of the world's choice of room. -/
noncomputable def growK {β : Type} (all : AV) (m : Nat) (need size : Nat) (e : TypeId) (σ : H) (k : AV → H → Option β) : Option β :=
  wrK m all (nat_lit 0) .nil fun c => H.rec (fun h nx => fnat (Nat.succ nx) fun cv => T.setK (some (.cells c undefA m (some (cv, size)) e)) h nx fun h' => fnat (Nat.succ cv) fun nx' => k (.vslice nx (nat_lit 0) need cv (nat_lit 0)) ⟨h', nx'⟩) σ
theorem growK_eq {β : Type} {all : AV} {m need size : Nat} {e : TypeId} {k : AV → H → Option β} : growK all m need size e σ k = wrK m all 0 .nil fun c => k (.vslice σ.nx 0 need (σ.nx + 1) 0) ⟨T.set (some (.cells c undefA m (some (σ.nx + 1, size)) e)) σ.h σ.nx, σ.nx + 1 + 1⟩ := by
  obtain ⟨h, nx⟩ := σ
  unfold growK
  congr 1
  funext c
  show fnat (Nat.succ nx) (fun cv => T.setK _ h nx fun h' => fnat (Nat.succ cv) fun nx' => _) = _
  rw [fnat_eq, T.setK_eq, fnat_eq]
theorem Rel.ext2_le (hR : Rel W0 η L σ w) (b c : Nat) : LM.Le L ((L.ext σ.nx b).ext (σ.nx + 1) c) := (hR.ext_le b).trans (LM.ext_le (hR.ext_free b _ (Nat.le_refl _)))
theorem ext2_at (L : LM) (n b c : Nat) : ((L.ext n b).ext (n + 1) c)[n]? = some b := by rw [LM.ext_get, if_neg (by omega), LM.ext_at]
theorem Rel.grow {b' cap : Nat} {x : AObj} {w' : World} (hR : Rel W0 η L σ w) (hK : Kept (fun k => k = b') w w') (hB : W0.fz b' = none) (hO : ObjAt η ((L.ext σ.nx b').ext (σ.nx + 1) cap) w' b' x) (hf : ∀ (o' : Nat) y, σ.h.get o' = some y → L[o']? = some b' → False) :
    Rel W0 η ((L.ext σ.nx b').ext (σ.nx + 1) cap) ⟨T.set (some x) σ.h σ.nx, σ.nx + 1 + 1⟩ w' ∧ ((L.ext σ.nx b').ext (σ.nx + 1) cap)[σ.nx]? = some b' ∧ ((L.ext σ.nx b').ext (σ.nx + 1) cap)[σ.nx + 1]? = some cap := by
  refine ⟨hR.put hK (hR.ext2_le _ _) (fun o ho => ?_) (fun o ho => ?_) (ext2_at ..) hB hO (fun o' y hy hb => (hf o' y hy hb).elim), ext2_at .., LM.ext_at ..⟩
  · rw [LM.ext_get, if_neg (by omega)]; exact hR.ext_free _ o (by omega)
  · obtain ⟨h1, h2⟩ := hR.ext_rsv b' o ho
    have := hR.rsv o ho
    refine ⟨by omega, ?_⟩
    rw [LM.ext_get, if_neg (by omega)]; exact h2
theorem Kept.allocNew {w : World} (o : Obj) : Kept (fun k => k = w.heap.size) w (w.alloc o) := (Kept.refl _ w).alloc o
theorem fresh_block (hR : Rel W0 η L σ w) : ∀ (o' : Nat) y, σ.h.get o' = some y → L[o']? = some w.heap.size → False := by
  intro o' y hy hb
  obtain ⟨hB, hO⟩ := hR.block hy hb
  have := hO.lt
  omega
/-- What the grown row's new block holds. -/
theorem grown_obj {n need size cap : Nat} {c : T AV} {e : TypeId} {all : AV} {Vs : List Value} {Z : Array Value} {β : Type} {k : T AV → Option β} {r : β} {b' : Nat} (hw : wrK (need * size) all 0 .nil k = some r) (hl : DL η L all Vs) (hZ : Z.size = size) (hcap : need ≤ cap) (hL : LM.Le L L') {cv : Nat} (hcv : L'[cv]? = some cap)
    {w' : World} (hb : w'.heap[b']? = some (.cells (Vs.toArray ++ Builtin.zeroCells Z (cap - need)) e (0, 0))) :
    ∃ c, k c = some r ∧ ObjAt η L' w' b' (.cells c undefA (need * size) (some (cv, size)) e) := by
  obtain ⟨c', hk, hlen, hi, _⟩ := toT_known hw hl
  have hzs : (Builtin.zeroCells Z (cap - need)).size = (cap - need) * size := by simp [Builtin.zeroCells, hZ]
  have hmul : need * size + (cap - need) * size = cap * size := by rw [← Nat.add_mul]; congr 1; omega
  refine ⟨c', hk, _, hb, by simp [hlen], ⟨cap, hcv, by simp [hlen, hzs, hmul]⟩, fun j hj => ?_⟩
  obtain ⟨v, V, h1, h2, h3, h4⟩ := hi j hj
  rw [Nat.zero_add] at h1
  refine ⟨V, by rw [h1]; exact h2.mono hL, ?_, h4⟩
  rw [Array.getElem?_append_left (by simp [hlen]; exact hj)]
  simpa using h3

noncomputable def aappend (C : Cfg) (ats : List TypeId) (σ : H) (s x : AV) : Option (AV × H) :=
  ob (lget ats (nat_lit 0)) fun t => ob (C.P.underlying t) fun d => tst (noIntA C.P ats) (match d with
    | .slice e => ob (C.P.info? e) fun i => fnat i.size fun size => tst (Nat.blt (nat_lit 0) size) (ob (azero C.P e) fun z => tst (isLen size (cellsA z)) (tst (okCells z) (asrcK σ size x fun n l =>
      match s with
      | .nslice => bcase (Nat.beq n (nat_lit 0)) (some (.nslice, σ)) (tst (Nat.ble (Nat.mul n i.bytes) (nat_lit 140737488355328)) (tst (Nat.ble n (nat_lit 4294967296)) (growK l (Nat.mul n size) n size e σ fun v σ' => some (v, σ'))))
      | .slice o off len cap => fnat (Nat.add len n) fun need => lookO σ o fun y => (match y with
        | .cells c d N cx et => bcase (Nat.ble need cap)
            (tst (Nat.ble (Nat.add off (Nat.mul need size)) N) (wrK (Nat.mul n size) l (Nat.add off (Nat.mul len size)) c fun c' => layK o (some (.cells c' d N cx et)) σ fun σ' => some (.slice o off need cap, σ')))
            (tst (Nat.ble (Nat.add off (Nat.mul len size)) N) (tst (Nat.ble (Nat.mul need i.bytes) (nat_lit 140737488355328)) (tst (Nat.ble need (nat_lit 4294967296)) (rdK c d (Nat.mul len size) off fun olds => tst (spineA olds) (growK (appA olds l) (Nat.mul need size) need size e σ fun v σ' => some (v, σ'))))))
        | _ => none)
      | .vslice o off len cv k => fnat (Nat.add len n) fun need => tst (Nat.beq off (nat_lit 0)) (tst (Nat.beq k (nat_lit 0)) (lookO σ o fun y => (match y with
        | .cells c d N cx et => ob cx fun p => Prod.rec (fun cv' sz => tst (Nat.beq cv' cv) (tst (Nat.beq sz size) (tst (Nat.beq et e) (bcase (Nat.ble (Nat.mul need size) N)
            (wrK (Nat.mul n size) l (Nat.mul len size) c fun c' => layK o (some (.cells c' d N cx et)) σ fun σ' => some (.vslice o (nat_lit 0) need cv (nat_lit 0), σ'))
            (tst (Nat.ble (Nat.mul len size) N) (tst (Nat.ble (Nat.mul need i.bytes) (nat_lit 140737488355328)) (tst (Nat.ble need (nat_lit 4294967296)) (rdK c d (Nat.mul len size) (nat_lit 0) fun olds => tst (spineA olds) (layK o none σ fun σ1 => growK (appA olds l) (Nat.mul need size) need size e σ1 fun v σ' => some (v, σ')))))))))) p
        | _ => none)))
      | _ => none)))
    | _ => none)
theorem rdK_spine {c : T AV} {d : AV} : ∀ {n off : Nat} {β : Type} {k : AV → β}, ∃ l, rdK c d n off k = k l ∧ spineA l = true
  | 0, off, β, k => ⟨.nil, rfl, rfl⟩
  | n + 1, off, β, k => by
    obtain ⟨l, he, hs⟩ := rdK_spine (c := c) (d := d) (n := n) (off := off + 1) (k := fun r => k (.cons ((c.get off).getD d) r))
    exact ⟨_, (rdK_succ c d n off k).trans he, by simpa [spineA] using hs⟩
end Go.Proofs.YtcjlhjoobchabaaGreatDoor
