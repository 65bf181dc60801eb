/- Stream: alive is told as true. -/
import Derived.Test.YtkfhjobebhdpoaaGreatB
import Derived.Test.YtkfhjobebhdpoaaGreatSK
set_option linter.unusedVariables false
set_option linter.unusedSimpArgs false
set_option autoImplicit false
set_option maxRecDepth 1000000
set_option maxHeartbeats 1000000
namespace Go.Proofs.YtkfhjobebhdpoaaGreat
noncomputable section
open Go.X
def conA : Con := fun args h ds K => args = [.str nA vA] ∧ K (ren (shf h.next) VA) (addAll h gA) ds
theorem conA_good : X.Good (C0.addCon 13 conA) Tryz.prog :=
  good0.addCon 13 conA (fun args h ds K hk => ⟨_, _, _, hk.2, by show h.next ≤ h.next + llen gA; omega, fun K' hk' => ⟨hk.1, hk'⟩⟩) (fun args h ds K hk => by obtain ⟨rfl, hk⟩ := hk; exact readyA_ok hk)
theorem alive_run : Ran (xfun (C0.addCon 13 conA) Tryz.prog (xcode (C0.addCon 13 conA) Tryz.prog F) 12 [] hNil [] (fun v _ _ => v = .bool true)) :=
  ⟨Eq.mpr (β := ([AV.str nA vA] = [.str nA vA]) ∧ (AV.bool true = AV.bool true)) (by kernel_rfl) ⟨rfl, rfl⟩⟩
end
end Go.Proofs.YtkfhjobebhdpoaaGreat
/- Stream: what all laws of one list of truth values share. -/
set_option autoImplicit false
set_option maxRecDepth 1000000
set_option maxHeartbeats 2000000
set_option linter.unusedVariables false
namespace Go.Proofs.YtkfhjobebhdpoaaGreat
noncomputable section
open Go.X
/-- what is told ahead holds -/
theorem cellI {b : T Blk} {N n i : Nat} (hi : i < n) {e : TypeId} (h : b.get 30 = some (.row (zrowsT 0 1 n) e true [])) (c : Nat → Int) : cellIs ⟨b, N⟩ 30 (Nat.add 0 (Nat.mul (Int.toNat (Int.ofNat i)) 1)) (.row (zn i) 1 c) := by
  rw [ix_eq]
  refine ⟨1, true, Nat.le_refl _, ?_⟩
  unfold cellOf
  show (match T.get b 30 with | some (.row cells _ _ _) => lget cells i | _ => none) = _
  rw [h]
  show lget (zrowsT 0 1 n) i = _
  rw [lget_eq]
  unfold zrowsT
  rw [List.getElem?_map, List.getElem?_range hi]
  simp
theorem cellR {b z : T Blk} {N j : Nat} {v : Int} (hz : zget b 12 = z) {e : TypeId} (h : z.get j = some (.row [.int .i64 v] e true [])) (c : Nat → CV) (hc : c 0 = .sc v) : cellsAre ⟨b, N⟩ (zn j) c 1 0 := by
  refine ⟨?_, trivial⟩
  rw [hc]
  show cellOf ⟨b, N⟩ (zn j) 0 = _
  unfold cellOf
  show (match T.get b (zname 12 j) with | some (.row cells _ _ _) => lget cells 0 | _ => none) = _
  rw [zget_get, hz, h]; rfl
theorem zrows_keep {ρ : Nat → Nat} {x m n : Nat} (h : ∀ j, j < n → ρ (zn (x + j)) = zn (x + j)) : renL ρ (zrows x m n) = zrows x m n := by
  unfold zrows
  rw [renL_slc]
  exact List.map_congr_left fun j hj => by rw [h j (List.mem_range.1 hj)]
theorem zrowsT_keep {ρ : Nat → Nat} {x m n : Nat} (h : ∀ j, j < n → ρ (zn (x + j)) = zn (x + j)) : renL ρ (zrowsT x m n) = zrowsT x m n := by
  unfold zrowsT
  rw [renL_slc]
  exact List.map_congr_left fun j hj => by rw [h j (List.mem_range.1 hj)]
theorem ble_t {i n : Nat} (h : i < n) : Nat.ble (i + 1) n = true := Nat.ble_eq_true_of_le h
theorem ble_f {i n : Nat} (h : ¬ i < n) : Nat.ble (i + 1) n = false := ble_false (by omega)
theorem row1_eq {x x' : Int} {e : TypeId} (h : x = x') : Blk.row [.int .i64 x] e true [] = Blk.row [.int .i64 x'] e true [] := by rw [h]
theorem row2_eq {x x' y y' : Int} {e : TypeId} (h : x = x') (k : y = y') : Blk.row [.int .i64 x, .int .i64 y] e true [] = Blk.row [.int .i64 x', .int .i64 y'] e true [] := by rw [h, k]
theorem row3_eq {x x' y y' z z' : Int} {e : TypeId} (h : x = x') (k : y = y') (j : z = z') : Blk.row [.int .i64 x, .int .i64 y, .int .i64 z] e true [] = Blk.row [.int .i64 x', .int .i64 y', .int .i64 z'] e true [] := by rw [h, k, j]
theorem row4_eq {x x' y y' z z' u u' : Int} {e : TypeId} (h : x = x') (k : y = y') (j : z = z') (i : u = u') : Blk.row [.int .i64 x, .int .i64 y, .int .i64 z, .int .i64 u] e true [] = Blk.row [.int .i64 x', .int .i64 y', .int .i64 z', .int .i64 u'] e true [] := by rw [h, k, j, i]
def pvB (l : Nat → Bool) : Nat → PV := fun j => .bool (l j)
/-- a program's blocks, from a name on -/
def pFrom (G : List Blk) (n : Nat) : List (Nat × Blk) := List.rec (motive := fun _ => Nat → List (Nat × Blk)) (fun _ => []) (fun k _ ih i => (Nat.add n i, renB (shf n) k) :: ih (Nat.succ i)) G 0
theorem alive_true : ∀ w, Calls Tryz.prog 12 #[] w fun e w' => e = .returned (.bool true) ∧ Quiet w w' := by
  intro w
  refine (xrun_nil conA_good.ok conA_good.spl rfl alive_run (args := []) (args' := #[]) .nil w).mono ?_
  rintro e w' ⟨v, v', L', rfl, rfl, r, q⟩
  cases r
  exact ⟨rfl, q⟩
end
end Go.Proofs.YtkfhjobebhdpoaaGreat
/- Stream: what laws of numbers share. -/
set_option autoImplicit false
set_option maxRecDepth 1000000
set_option maxHeartbeats 2000000
set_option linter.unusedVariables false
namespace Go.Proofs.YtkfhjobebhdpoaaGreat
noncomputable section
open Go.X
/-- what is told ahead holds -/
theorem cellIX {b : T Blk} {N n i : Nat} (hi : i < n) {e : TypeId} (h : b.get 50 = some (.row (zrowsT 0 1 n) e true [])) (c : Nat → Int) : cellIs ⟨b, N⟩ 50 (Nat.add 0 (Nat.mul (Int.toNat (Int.ofNat i)) 1)) (.row (zn i) 1 c) := by
  rw [ix_eq]
  refine ⟨1, true, Nat.le_refl _, ?_⟩
  unfold cellOf
  show (match T.get b 50 with | some (.row cells _ _ _) => lget cells i | _ => none) = _
  rw [h]
  show lget (zrowsT 0 1 n) i = _
  rw [lget_eq]
  unfold zrowsT
  rw [List.getElem?_map, List.getElem?_range hi]
  simp
def pvI (l : Nat → Int) : Nat → PV := fun j => .int .i64 (l j)
end
end Go.Proofs.YtkfhjobebhdpoaaGreat
