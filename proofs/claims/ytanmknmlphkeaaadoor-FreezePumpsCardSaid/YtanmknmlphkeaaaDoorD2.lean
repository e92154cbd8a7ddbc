/- A PART OF THE PROOF: an abstract run of the loaded code over value trees, and the functions walked by it. No condition of its own. -/
import Derived.Test.YtanmknmlphkeaaaDoorD1
import Derived.Test.YtanmknmlphkeaaaDoorG1
namespace Go.Proofs.Aw
open Go Go.Proofs
set_option maxRecDepth 100000
theorem w64 {z : Int} (h0 : -9223372036854775808 ≤ z) (h1 : z ≤ 9223372036854775807) : IntKind.i64.wrap z = z := by
  rw [IntKind.wrap_i64]; omega
theorem dT {p : Prop} [Decidable p] (h : decide p = true) : p := of_decide_eq_true h
theorem dF {p : Prop} [Decidable p] (h : decide p = false) : ¬ p := of_decide_eq_false h
/-- two lists, as a slice of slices -/
def twoA (n0 n1 : Nat) (k0 k1 : KL) (i : Nat) : List LV := match Nat.beq i 0 with
  | true => [.sl 2 n0 (kv k0)]
  | false => [.sl 2 n1 (kv k1)]
def tot (n0 n1 : Nat) (j : Nat) : Nat := match Nat.beq j 0 with
  | true => 0
  | false => match Nat.beq j 1 with
    | true => n0
    | false => n0 + n1
def catK (n0 : Nat) (k0 k1 : KL) : KL := fun i => if i < n0 then k0 i else k1 (i - n0)
theorem catK_lt {n0 i : Nat} {k0 k1 : KL} (h : i < n0) : kv (catK n0 k0 k1) i = kv k0 i := by simp [kv, catK, h]
theorem catK_ge {n0 i : Nat} {k0 k1 : KL} (h : ¬ i < n0) : kv (catK n0 k0 k1) i = kv k1 (i - n0) := by simp [kv, catK, h]
theorem concat_ct (n0 n1 : Nat) (k0 k1 : KL) (h0 : n0 ≤ 400) (h1 : n1 ≤ 400) : CtN Tryd.prog 30 [.sl 1 2 (twoA n0 n1 k0 k1)] 48 2 (n0 + n1) (kv (catK n0 k0 k1)) := by
  refine CtN.enter Tryd.tabOk ft30 (fun i _ => kv_flat _ i) ?_
  refine ⟨Nat, fun j => ⟨[(11, .v (.int .i64 (j : Int))), (10, .v (.int .i64 2)), (9, .sl 1 2 (twoA n0 n1 k0 k1)), (3, .v (.int .i64 (tot n0 n1 j : Int))), (0, .sl 1 2 (twoA n0 n1 k0 k1))], [], 0, 0⟩, fun j => j ≤ 2, fun j => 2 - j, 0, Nat.zero_le _,
    .le ⟨rfl, ⟨rfl, Nat.le_refl _⟩, ⟨LV.le.refl _, rfl, LV.le.refl _, rfl, LV.le.refl _, rfl, LV.le.refl _, rfl, LV.le.refl _, rfl, trivial⟩, trivial⟩, fun j hj => ⟨fun h => ?_, fun h => ?_⟩⟩
  · have h := dT h
    refine ⟨⟨by omega, by omega⟩, ?_⟩
    rcases (by omega : j = 0 ∨ j = 1) with rfl | rfl
    · have e : IntKind.i64.wrap ((tot n0 n1 0 : Int) + (n0 : Int)) = n0 := by rw [w64] <;> simp [tot] <;> omega
      refine ⟨fun h2 => absurd (dT h2) (by show ¬ IntKind.i64.wrap ((tot n0 n1 0 : Int) + (n0 : Int)) < 0; omega), fun _ => ⟨1, (by omega : 1 ≤ 2), (by omega : 2 - 1 < 2 - 0), .le ⟨rfl, ⟨rfl, Nat.le_refl _⟩, ⟨LV.le.refl _, rfl, LV.le.refl _, rfl, LV.le.refl _, rfl, LV.le.int e, rfl, LV.le.refl _, rfl, trivial⟩, trivial⟩⟩⟩
    · have e : IntKind.i64.wrap ((tot n0 n1 1 : Int) + (n1 : Int)) = (tot n0 n1 2 : Int) := by rw [w64] <;> simp [tot] <;> omega
      have e3 : (0 : Int) ≤ (tot n0 n1 2 : Int) := by omega
      refine ⟨fun h2 => absurd (dT h2) (by show ¬ IntKind.i64.wrap ((tot n0 n1 1 : Int) + (n1 : Int)) < 0; omega), fun _ => ⟨2, (by omega : 2 ≤ 2), (by omega : 2 - 2 < 2 - 1), .le ⟨rfl, ⟨rfl, Nat.le_refl _⟩, ⟨LV.le.refl _, rfl, LV.le.refl _, rfl, LV.le.refl _, rfl, LV.le.int e, rfl, LV.le.refl _, rfl, trivial⟩, trivial⟩⟩⟩
  · obtain rfl : j = 2 := by have := dF h; omega
    refine CtN.call (grow_ct (n0 + n1) (by omega)) rfl ?_
    refine ⟨Nat, fun j => ⟨[(27, .v (.int .i64 (j : Int))), (26, .v (.int .i64 2)), (25, .sl 1 2 (twoA n0 n1 k0 k1)), (6, .ls j (tot n0 n1 j))], [(j, .arr 48 2 (tot n0 n1 j) (kv (catK n0 k0 k1)))], j + 1, 0⟩, fun j => j ≤ 2, fun j => 2 - j, 0, Nat.zero_le _,
      .le ⟨rfl, ⟨rfl, Nat.le_refl _⟩, ⟨LV.le.refl _, rfl, LV.le.refl _, rfl, LV.le.refl _, rfl, LV.le.refl _, rfl, trivial⟩, ⟨⟨_, rfl, LO.le.arr rfl fun i hi => absurd hi (by omega)⟩, rfl, rfl, trivial⟩⟩, fun j hj => ⟨fun h => ?_, fun h => ?_⟩⟩
    · have h := dT h
      refine ⟨⟨by omega, by omega⟩, ?_⟩
      rcases (by omega : j = 0 ∨ j = 1) with rfl | rfl
      · refine ⟨by show (tot n0 n1 0 + n0) * 24 ≤ _; simp only [tot]; omega, by simp only [tot]; omega, ⟨1, (by omega : 1 ≤ 2), (by omega : 2 - 1 < 2 - 0), .le ⟨rfl, ⟨rfl, Nat.le_refl _⟩, ⟨LV.le.refl _, rfl, LV.le.refl _, rfl, LV.le.refl _, rfl, ?_, rfl, trivial⟩, ⟨⟨_, rfl, LO.le.arr ?_ fun i hi => ?_⟩, rfl, rfl, trivial⟩⟩⟩⟩
        · exact LV.le.eq (congrArg (LV.ls 1) (Nat.zero_add n0))
        · exact Nat.zero_add n0
        · rw [catK_lt (by have : i < 0 + n0 := hi; omega)]; rfl
      · refine ⟨by show (tot n0 n1 1 + n1) * 24 ≤ _; simp only [tot]; omega, by simp only [tot]; omega, ⟨2, (by omega : 2 ≤ 2), (by omega : 2 - 2 < 2 - 1), .le ⟨rfl, ⟨rfl, Nat.le_refl _⟩, ⟨LV.le.refl _, rfl, LV.le.refl _, rfl, LV.le.refl _, rfl, LV.le.refl _, rfl, trivial⟩, ⟨⟨_, rfl, LO.le.arr rfl fun i hi => ?_⟩, rfl, rfl, trivial⟩⟩⟩⟩
        show (match Nat.blt i n0 with | true => kv (catK n0 k0 k1) i | false => kv k1 (i - n0)) = _
        cases hb : Nat.blt i n0 with
        | true => rfl
        | false =>
          show kv k1 (i - n0) = _
          rw [catK_ge]
          intro h; rw [Nat.blt_eq.mpr h] at hb; cases hb
    · obtain rfl : j = 2 := by have := dF h; omega
      exact ⟨⟨rfl, rfl, rfl⟩, fun i _ => rfl⟩
end Go.Proofs.Aw
