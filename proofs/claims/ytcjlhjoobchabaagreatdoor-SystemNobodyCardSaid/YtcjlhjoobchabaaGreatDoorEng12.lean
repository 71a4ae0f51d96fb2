/- The engine, 12: operations that look at memory, or turn it; no calls, no append. -/
import Derived.Test.YtcjlhjoobchabaaGreatDoorEng11
import Derived.Great.BuildSlice
import Derived.MapKept
import Derived.Laws.OwnMore
import Derived.Laws.BytesArg
namespace Go.Proofs.YtcjlhjoobchabaaGreatDoor
open Go.RowKit
set_option linter.unusedVariables false
set_option linter.unusedSimpArgs false
variable {η : Nat → Int} {L L' : LM} {W0 : Base} {w : World} {σ : H}

/-- A package-level variable's cell, as it is laid: kept, as the call's own blocks come behind. -/
structure Rom where
  at_ : Nat → Nat → Option AV
structure Rom.Ok (R : Rom) (η : Nat → Int) (W0 : Base) : Prop where
  cell : ∀ g off v, R.at_ g off = some v → ∃ V, D η LM.none_ v V ∧ ∀ w, W0.Held w → w.cell? ⟨g, off, none⟩ = some V

noncomputable def kindIs (v : AV) (k0 : IntKind) : Bool := match v with | .int k _ => aint.ikeq k k0 | .sym k _ _ => aint.ikeq k k0 | _ => false
theorem kindIs_true {v : AV} {k0 : IntKind} {V : Value} (h : kindIs v k0 = true) (hv : D η L v V) : ∃ x, V = .int k0 x := by
  cases v <;> simp only [kindIs] at h <;> try (cases h; done)
  · have := ikeq_true h; subst this; cases hv; exact ⟨_, rfl⟩
  · have := ikeq_true h; subst this; cases hv; exact ⟨_, rfl⟩
/-- Bytes, as a string. -/
def numsA : AV → Option (List Int)
  | .nil => some []
  | .cons (.int .u8 n) r => (numsA r).map (n :: ·)
  | _ => none
theorem numsA_some : ∀ {l : AV} {xs : List Int} {Vs : List Value}, numsA l = some xs → DL η L l Vs → Vs = xs.map (Value.int .u8)
  | .nil, xs, Vs, h, hl => by
    simp only [numsA] at h
    cases h
    exact DL_nil_inv hl
  | .cons (.int .u8 n) r, xs, Vs, h, hl => by
    simp only [numsA] at h
    obtain ⟨V, Ws, hV, hr, rfl⟩ := D_cons hl
    cases hn : numsA r with
    | none => rw [hn] at h; cases h
    | some ys =>
      rw [hn] at h
      cases h
      cases hV
      rw [numsA_some hn hr]; rfl
noncomputable def abytesAt (σ : H) (o off len : Nat) : Option AV := lookO σ o fun x => (match x with
  | .cells c d n _ _ => tst (Nat.ble (Nat.add off len) n) (rdK c d len off fun l => ob (numsA l) fun xs => some (.str (strOfNums xs)))
  | _ => none)
noncomputable def abytes (σ : H) (u : AV) : Option AV := match u with
  | .nslice => some (.str (strOfNums []))
  | .slice o off len _ => abytesAt σ o off len
  | .vslice o off len _ _ => abytesAt σ o off len
  | _ => none
theorem abytesAt_some {P : Program} {o off len b cap : Nat} {r : AV} (h : abytesAt σ o off len = some r) (hR : Rel W0 η L σ w) (hb : L[o]? = some b) {src dst e : TypeId} (hs : P.underlying src = some (.slice e)) (he : P.underlying e = some (.int .u8)) (hd : P.underlying dst = some .string) :
    ∃ R, D η L r R ∧ (convert src dst (.slice (some ⟨b, off, none⟩) len cap)).run P w = .ok R w := by
  obtain ⟨x, hx, h⟩ := lookO_some h
  obtain ⟨b', g1, g2, hO⟩ := hR.obj o x hx
  have e' : b' = b := by have := g1.symm.trans hb; simpa using this
  subst e'
  cases x with
  | cells c d n cp et =>
    obtain ⟨C, k1, k2, k3, k4⟩ := hO
    obtain ⟨h1, h⟩ := tst_some h
    have hle := Nat.le_of_ble_eq_true h1
    obtain ⟨l, Vs, hl, hke, hlen, hj, _⟩ := rdK_some (c := c) (d := d) (N := n) (C := C) k4 (n := len) (off := off) (k := fun l => ob (numsA l) fun xs => some (AV.str (strOfNums xs))) hle
    rw [hke] at h
    obtain ⟨xs, hxs, h⟩ := ob_some h
    cases h
    have hVs := numsA_some hxs hl
    have hxl : xs.length = len := by rw [← hlen, hVs]; simp
    refine ⟨.string (strOfNums xs), rfl, run_convert_bytes_arg w src e hs he b' off len cap xs hxl (fun i hi => ?_) dst hd⟩
    rw [cell_of_heap k1, hj i hi, hVs]
    have hi' : i < xs.length := by omega
    simp [List.getD, hi']
  | _ => cases h
noncomputable def aread (C : Cfg) (rom : Rom) (ts : T AV) (σ : H) (op : Op) : Option AV := match op with
  | .load t x => ob (aev ts x) fun u => (match u with
    | .ptr o off => ald C.P σ t o off
    | .gptr g off => ob (C.P.underlying t) fun d => bcase (aggD d) none (rom.at_ g off)
    | _ => none)
  | .lookup t m i ok => ob (aev ts m) fun u => ob (aev ts i) fun key => ob (C.P.underlying t) fun d => (match d with
    | .map kt et => ob (intK (C.P.underlying kt)) fun k0 => tst (kindIs key k0) (match u with
      | .map o => lookO σ o fun x => (match x with
        | .map es => ob (afind C key (nat_lit 4000) es (nat_lit 0)) fun r => Option.rec (ob (azero C.P et) fun z => some (bcase ok (.tuple (.cons z (.cons (.bool false) .nil))) z)) (fun p => Prod.rec (fun _ v => some (bcase ok (.tuple (.cons v (.cons (.bool true) .nil))) v)) p) r
        | _ => none)
      | _ => none)
    | _ => none)
  | .convert s d x => ob (C.P.underlying s) fun ds => (match ds with
    | .slice e => ob (intK (C.P.underlying e)) fun k => tst (aint.ikeq k .u8) (tst (isDStr (C.P.underlying d)) (ob (aev ts x) fun u => abytes σ u))
    | _ => none)
  | .call c => (match c.callee with
    | .builtin b => (match b with
      | .len => ob (lget c.argTypes.toList (nat_lit 0)) fun t => ob (lget c.args.toList (nat_lit 0)) fun x => ob (aev ts x) fun u => ob (C.P.underlying t) fun d => (match d with
        | .map _ _ => (match u with
          | .map o => lookO σ o fun x => (match x with | .map es => ob (apairs es) fun n => some (.int .i64 (Int.ofNat n)) | _ => none)
          | _ => none)
        | _ => none)
      | _ => none)
    | _ => none)
  | _ => none
where apairs (es : AV) : Option Nat := match es with | .nil => some 0 | .cons _ (.cons _ r) => (match apairs r with | some n => some (n + 1) | none => none) | _ => none

theorem apairs_some : ∀ {es : AV} {n : Nat} {ents : List MapEntry}, aread.apairs es = some n → DL η L es (flatE ents) → n = ents.length
  | .nil, n, ents, h, hE => by
    simp only [aread.apairs] at h
    cases h
    have := DL_nil_inv hE
    cases ents with
    | nil => rfl
    | cons e l => simp [flatE] at this
  | .cons a (.cons b r), n, ents, h, hE => by
    simp only [aread.apairs] at h
    obtain ⟨V, Ws, hV, hr, e⟩ := D_cons hE
    obtain ⟨V2, Ws2, hV2, hr2, rfl⟩ := D_cons hr
    cases ents with
    | nil => cases e
    | cons q l =>
      rw [flatE_cons] at e
      cases e
      cases hp : aread.apairs r with
      | none => rw [hp] at h; cases h
      | some m => rw [hp] at h; cases h; rw [apairs_some hp hr2]; rfl
theorem aread_some {C : Cfg} (hC : C.Ok η) {rom : Rom} (hM : rom.Ok η W0) {ts : T AV} {ρ : Operand → Value} (hE : Ev η L ts ρ) (hR : Rel W0 η L σ w) {o : Oper} {r : AV} (h : aread C rom ts σ o.op = some r) : ∃ R, D η L r R ∧ (execOp ρ o).run C.P w = .ok (.value R) w := by
  obtain ⟨dst, op, ty, pos, after, guard⟩ := o
  dsimp only at h
  cases op with
  | load t x =>
    obtain ⟨u, hu, h⟩ := ob_some h
    have hx := hE x u hu
    cases u with
    | ptr o off =>
      obtain ⟨b, hb, e⟩ := D_ptr hx
      obtain ⟨R, hD, hr⟩ := ald_some h hR hb
      exact ⟨R, hD, run_val (by rw [e]; exact hr)⟩
    | gptr g off =>
      obtain ⟨d, hd, h⟩ := ob_some h
      cases ha : aggD d
      · rw [ha, bcase_false] at h
        obtain ⟨V, hV, hc⟩ := hM.cell g off r h
        have e : ρ x = .pointer (some ⟨g, off, none⟩) := hx.inj rfl
        have hcell := hc w hR.held
        refine ⟨V, hV.mono (LM.none_le _), run_val ?_⟩
        simp [e, Instr.loadAt, Instr.sureAddr, loadVar, run_isAgg hd, ha, load, Sem.run, hcell]
      · rw [ha] at h; cases h
    | _ => cases h
  | convert s d x =>
    obtain ⟨ds, hds, h⟩ := ob_some h
    cases ds with
    | slice e =>
      obtain ⟨k, hk, h⟩ := ob_some h
      obtain ⟨h1, h⟩ := tst_some h
      obtain ⟨h2, h⟩ := tst_some h
      obtain ⟨u, hu, h⟩ := ob_some h
      have hx := hE x u hu
      have hke := intK_some hk
      rw [ikeq_true h1] at hke
      have hdd := isDStr_true h2
      cases u with
      | nslice =>
        cases h; cases hx' : ρ x <;> rw [hx'] at hx <;> cases hx
        refine ⟨.string (strOfNums []), rfl, run_val ?_⟩
        rw [hx']
        exact run_convert_bytes_nil w s e hds hke 0 0 d hdd
      | slice o off len cap =>
        obtain ⟨b, hb, e2⟩ := D_slice hx
        obtain ⟨R, hD, hr⟩ := abytesAt_some (P := C.P) (cap := cap) h hR hb hds hke hdd
        exact ⟨R, hD, run_val (by rw [e2]; exact hr)⟩
      | vslice o off len cv k2 =>
        obtain ⟨b, c, hb, hc, hle, e2⟩ := D_vslice hx
        obtain ⟨R, hD, hr⟩ := abytesAt_some (P := C.P) (cap := c - k2) h hR hb hds hke hdd
        exact ⟨R, hD, run_val (by rw [e2]; exact hr)⟩
      | _ => cases h
    | _ => cases h
  | lookup t m i ok =>
    obtain ⟨u, hu, h⟩ := ob_some h
    obtain ⟨key, hkey, h⟩ := ob_some h
    obtain ⟨d, hd, h⟩ := ob_some h
    have hm := hE m u hu
    have hi := hE i key hkey
    cases d with
    | map kt et =>
      obtain ⟨k0, hk0, h⟩ := ob_some h
      have hkt := intK_some hk0
      obtain ⟨hki, h⟩ := tst_some h
      have hint := kindIs_true hki hi
      cases u with
      | map o =>
        obtain ⟨x, hx, h⟩ := lookO_some h
        cases x with
        | map es =>
          obtain ⟨b, g1, g2, ents, clock, k1, k2⟩ := hR.obj o _ hx
          obtain ⟨b', hb', e⟩ := D_map hm
          have : b' = b := by have := hb'.symm.trans g1; simpa using this
          subst this
          obtain ⟨q, hq, h⟩ := ob_some h
          have hck : (Instr.checkKey ents.isEmpty 10000 kt (ρ i)).run C.P w = .ok () w := by
            obtain ⟨x, hx⟩ := hint
            exact MapKept.run_checkKey (k := ρ i) hkt (by rw [hx]; exact rfl) _ 9999
          have hall : Instr.findNow (.int k0) (ρ i) ents.toList 0 = some none → ∀ Z, (∀ w, (zeroValue et).run C.P w = .ok Z w) → (Instr.lookup t (.map (some b')) (ρ i) ok).run C.P w = .ok (bcase ok (.tuple #[Z, .bool false]) Z) w := by
            intro ha Z hZ
            cases ok <;> simp [Instr.lookup, run_underlying hd, MapKept.run_getObj_map k1, hck, MapKept.run_findKey hkt ha, hZ, bcase]
          have hall' : ∀ {j : Nat} {v : Value}, Instr.findNow (.int k0) (ρ i) ents.toList 0 = some (some (j, v)) → (Instr.lookup t (.map (some b')) (ρ i) ok).run C.P w = .ok (bcase ok (.tuple #[v, .bool true]) v) w := by
            intro j v ha
            cases ok <;> simp [Instr.lookup, run_underlying hd, MapKept.run_getObj_map k1, hck, MapKept.run_findKey hkt ha, bcase]
          have e2 : ρ m = .map (some b') := by assumption
          rcases afind_some hC hi hq k2 hint with ⟨rfl, hf⟩ | ⟨j, v, V, rfl, _, hv, hf, _⟩
          · obtain ⟨z, hz, h⟩ := ob_some (h : ob (azero C.P et) (fun z => some (bcase ok (.tuple (.cons z (.cons (.bool false) .nil))) z)) = some r)
            cases h
            obtain ⟨inf, Z, hinf, hZ, hzD⟩ := azero_some (η := η) (L := L) hz
            have := hall hf Z (run_zero hinf hZ)
            refine ⟨_, ?_, run_val (by rw [e2]; exact this)⟩
            cases ok
            · exact hzD
            · exact D_tuple (DL_cons hzD (DL_cons rfl DL_nil))
          · have h' : some (bcase ok (AV.tuple (.cons v (.cons (.bool true) .nil))) v) = some r := h
            cases h'
            refine ⟨_, ?_, run_val (by rw [e2]; exact hall' hf)⟩
            cases ok
            · exact hv
            · exact D_tuple (DL_cons hv (DL_cons rfl DL_nil))
        | _ => cases h
      | _ => cases h
    | _ => cases h
  | call c =>
    obtain ⟨callee, args, ats⟩ := c
    cases callee with
    | builtin b =>
      cases b with
      | len =>
        obtain ⟨t, ht, h⟩ := ob_some h
        obtain ⟨x, hx, h⟩ := ob_some h
        obtain ⟨u, hu, h⟩ := ob_some h
        obtain ⟨d, hd, h⟩ := ob_some h
        rw [lget_eq] at ht hx
        have hxD := hE x u hu
        cases d with
        | map kt et =>
          cases u with
          | map o =>
            obtain ⟨q, hq, h⟩ := lookO_some h
            cases q with
            | map es =>
              obtain ⟨n, hn, h⟩ := ob_some h
              cases h
              obtain ⟨b, g1, g2, ents, clock, k1, k2⟩ := hR.obj o _ hq
              obtain ⟨b', hb', e⟩ := D_map hxD
              have : b' = b := by have := hb'.symm.trans g1; simpa using this
              subst this
              have hlen := apairs_some hn k2
              have hat : ats[0]? = some t := by simpa using ht
              have hax : (args.map ρ)[0]? = some (.map (some b')) := by simp at hx; simp [hx, e]
              have hrun : (Builtin.len_ ats ty (args.map ρ)).run C.P w = .ok (goInt ents.size) w := by
                simp [Builtin.len_, hat, hax, run_underlying hd, MapKept.run_getObj_map k1]
              refine ⟨goInt ents.size, ?_, ?_⟩
              · rw [hlen]; simp [D, den, goInt]
              · simp only [execOp, resolve, Sem.run_bind, Sem.run_pure, Result.andThen_ok, invoke, builtin]; rw [hrun]; rfl
            | _ => cases h
          | _ => cases h
        | _ => cases h
      | _ => cases h
    | _ => cases h
  | _ => cases h
end Go.Proofs.YtcjlhjoobchabaaGreatDoor
