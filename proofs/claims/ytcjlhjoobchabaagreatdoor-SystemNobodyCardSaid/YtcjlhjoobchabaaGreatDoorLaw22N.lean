/- turnbucklelaw22.SystemNobody, run. -/
import Derived.Test.YtcjlhjoobchabaaGreatDoorLaw22
namespace Go.Proofs.YtcjlhjoobchabaaGreatDoor
open Go.RowKit
set_option maxRecDepth 10000000
noncomputable def evA (k n : AV) : AV := .cons (.agg (.cons k (.cons n (.cons (.sym .u64 2 0) .nil)))) (.cons (.sym .i64 3 0) .nil)
noncomputable def iA (n : Nat) : AV := .int .i64 (Int.ofNat n)
noncomputable def F1 (k n : Int × Int) : Facts := ⟨[k, n, (0, kmax .u64), (kmin .i64, kmax .i64)], []⟩
noncomputable def all64 : Int × Int := (kmin .i64, kmax .i64)
noncomputable def neg64 : Int × Int := (kmin .i64, Int.negSucc (nat_lit 0))
noncomputable def goE (F : Facts) (k n : AV) : Bool := shows (acall (C22 F) rom1 hk22 50 false 9 (evA k n) ⟨.nil, 0⟩ (fun v σ => some (v, σ)))
theorem g6 : goE (F1 (6, kmax .i64) all64) (.sym .i64 0 0) (.sym .i64 1 0) = true := by kernel_rfl
theorem g0 : goE (F1 (kmin .i64, 0) all64) (.sym .i64 0 0) (.sym .i64 1 0) = true := by kernel_rfl
theorem g1p : goE (F1 all64 (0, kmax .i64)) (iA 1) (.sym .i64 1 0) = true := by kernel_rfl
theorem g1n : goE (F1 all64 neg64) (iA 1) (.sym .i64 1 0) = true := by kernel_rfl
theorem g2p : goE (F1 all64 (8, kmax .i64)) (iA 2) (.sym .i64 1 0) = true := by kernel_rfl
theorem g2n : goE (F1 all64 neg64) (iA 2) (.sym .i64 1 0) = true := by kernel_rfl
theorem g20 : goE (F1 all64 all64) (iA 2) (iA 0) = true := by kernel_rfl
theorem g21 : goE (F1 all64 all64) (iA 2) (iA 1) = true := by kernel_rfl
theorem g22 : goE (F1 all64 all64) (iA 2) (iA 2) = true := by kernel_rfl
theorem g23 : goE (F1 all64 all64) (iA 2) (iA 3) = true := by kernel_rfl
theorem g24 : goE (F1 all64 all64) (iA 2) (iA 4) = true := by kernel_rfl
theorem g25 : goE (F1 all64 all64) (iA 2) (iA 5) = true := by kernel_rfl
theorem g26 : goE (F1 all64 all64) (iA 2) (iA 6) = true := by kernel_rfl
theorem g27 : goE (F1 all64 all64) (iA 2) (iA 7) = true := by kernel_rfl
theorem g3 : goE (F1 all64 all64) (iA 3) (.sym .i64 1 0) = true := by kernel_rfl
theorem g4 : goE (F1 all64 all64) (iA 4) (.sym .i64 1 0) = true := by kernel_rfl
theorem g5n : goE (F1 all64 neg64) (iA 5) (.sym .i64 1 0) = true := by kernel_rfl
theorem g5i : goE (F1 all64 (0, 1000000)) (iA 5) (.sym .i64 1 0) = true := by kernel_rfl
theorem g5p : goE (F1 all64 (1000001, kmax .i64)) (iA 5) (.sym .i64 1 0) = true := by kernel_rfl
theorem D_sym {η : Nat → Int} {L : LM} {k : IntKind} {v : Nat} (h0 : kmin k ≤ η v) (h1 : η v ≤ kmax k) : D η L (.sym k v 0) (.int k (η v)) := by
  show some [Value.int k (k.wrap (η v + 0))] = _
  rw [Int.add_zero, wrap_in k _ h0 h1]
theorem nobody_walk (k n a p : Int) (hk : kmin .i64 ≤ k ∧ k ≤ kmax .i64) (hn : kmin .i64 ≤ n ∧ n ≤ kmax .i64) (ha : 0 ≤ a ∧ a ≤ kmax .u64) (hp : kmin .i64 ≤ p ∧ p ≤ kmax .i64) (w : World)
    (hw : ∀ i, w.cell? ⟨1, i, none⟩ = (tabB[i]?).map fun n => Value.int .u8 (Int.ofNat n)) :
    Calls Tryz.prog 9 #[.agg #[.int .i64 k, .int .i64 n, .int .u64 a], .int .i64 p] w fun e w' => e = .returned (.bool true) ∧ Below w.heap.size w w' := by
  let η : Nat → Int := fun v => if v = 0 then k else if v = 1 then n else if v = 2 then a else p
  have key : ∀ (kr nr : Int × Int) (kA nA : AV), goE (F1 kr nr) kA nA = true → (kr.1 ≤ k ∧ k ≤ kr.2) → (nr.1 ≤ n ∧ n ≤ nr.2) → D η LM.none_ kA (.int .i64 k) → D η LM.none_ nA (.int .i64 n) →
      Calls Tryz.prog 9 #[.agg #[.int .i64 k, .int .i64 n, .int .u64 a], .int .i64 p] w fun e w' => e = .returned (.bool true) ∧ Below w.heap.size w w' := by
    intro kr nr kA nA hg hkr hnr hkA hnA
    have hF : (F1 kr nr).Hold η := by
      refine ⟨fun v lo hi h => ?_, fun v u h => by simp [F1] at h⟩
      match v, h with
      | 0, h => cases h; exact hkr
      | 1, h => cases h; exact hnr
      | 2, h => cases h; exact ha
      | 3, h => cases h; exact hp
      | v + 4, h => simp [F1] at h
    exact says22 hF hw hg (DL_cons (D_agg (DL_cons hkA (DL_cons hnA (DL_cons (D_sym (η := η) (v := 2) ha.1 ha.2) DL_nil)))) (DL_cons (D_sym (η := η) (v := 3) hp.1 hp.2) DL_nil))
  have sk : D η LM.none_ (.sym .i64 0 0) (.int .i64 k) := D_sym (η := η) (v := 0) hk.1 hk.2
  have sn : D η LM.none_ (.sym .i64 1 0) (.int .i64 n) := D_sym (η := η) (v := 1) hn.1 hn.2
  have ik : ∀ m : Nat, k = (m : Int) → D η LM.none_ (iA m) (.int .i64 k) := fun m h => by rw [h]; rfl
  have im : ∀ m : Nat, n = (m : Int) → D η LM.none_ (iA m) (.int .i64 n) := fun m h => by rw [h]; rfl
  have nn : neg64 = (kmin .i64, -1) := rfl
  have kx : kmax .i64 = 9223372036854775807 := rfl
  have kn : kmin .i64 = -9223372036854775808 := rfl
  by_cases c0 : k ≤ 0
  · exact key _ _ _ _ g0 ⟨hk.1, c0⟩ hn sk sn
  by_cases c6 : 6 ≤ k
  · exact key _ _ _ _ g6 ⟨c6, hk.2⟩ hn sk sn
  have h5 : k = 1 ∨ k = 2 ∨ k = 3 ∨ k = 4 ∨ k = 5 := by omega
  rcases h5 with e | e | e | e | e
  · by_cases c : 0 ≤ n
    · exact key _ _ _ _ g1p hk ⟨c, hn.2⟩ (ik 1 e) sn
    · exact key _ _ _ _ g1n hk ⟨hn.1, by rw [nn]; show n ≤ -1; omega⟩ (ik 1 e) sn
  · by_cases c : n < 0
    · exact key _ _ _ _ g2n hk ⟨hn.1, by rw [nn]; show n ≤ -1; omega⟩ (ik 2 e) sn
    by_cases c8 : 8 ≤ n
    · exact key _ _ _ _ g2p hk ⟨c8, hn.2⟩ (ik 2 e) sn
    have h8 : n = 0 ∨ n = 1 ∨ n = 2 ∨ n = 3 ∨ n = 4 ∨ n = 5 ∨ n = 6 ∨ n = 7 := by omega
    rcases h8 with f | f | f | f | f | f | f | f
    · exact key _ _ _ _ g20 hk hn (ik 2 e) (im 0 f)
    · exact key _ _ _ _ g21 hk hn (ik 2 e) (im 1 f)
    · exact key _ _ _ _ g22 hk hn (ik 2 e) (im 2 f)
    · exact key _ _ _ _ g23 hk hn (ik 2 e) (im 3 f)
    · exact key _ _ _ _ g24 hk hn (ik 2 e) (im 4 f)
    · exact key _ _ _ _ g25 hk hn (ik 2 e) (im 5 f)
    · exact key _ _ _ _ g26 hk hn (ik 2 e) (im 6 f)
    · exact key _ _ _ _ g27 hk hn (ik 2 e) (im 7 f)
  · exact key _ _ _ _ g3 hk hn (ik 3 e) sn
  · exact key _ _ _ _ g4 hk hn (ik 4 e) sn
  · by_cases c : n < 0
    · exact key _ _ _ _ g5n hk ⟨hn.1, by rw [nn]; show n ≤ -1; omega⟩ (ik 5 e) sn
    by_cases c9 : n ≤ 1000000
    · exact key _ _ _ _ g5i hk ⟨by show (0 : Int) ≤ n; omega, c9⟩ (ik 5 e) sn
    · exact key _ _ _ _ g5p hk ⟨by show (1000001 : Int) ≤ n; omega, hn.2⟩ (ik 5 e) sn
end Go.Proofs.YtcjlhjoobchabaaGreatDoor
