/- A PART OF THE PROOF: an abstract run of the loaded code over value trees, and the functions walked by it. No condition of its own. -/
import Derived.Test.YtanmknmlphkeaaaDoorD9
namespace Go.Proofs.Aw
open Go Go.Proofs
set_option maxHeartbeats 4000000
set_option maxRecDepth 100000
/-- the lists of a machine, as the statements look at them -/
structure MV where
  M0 : Nat
  M1 : Nat
  w0 : TL
  w1 : TL
  np : Nat
  nd : Nat
  nq : Nat
  Ap : Option Addr
  Ad : Option Addr
  Aq : Option Addr
  cp : Nat
  cd : Nat
  cq : Nat
def MV.lv (m : MV) : List LV := [.any, .any, .any, .any, .sl 1 m.M0 (tx m.w0), .v (.slice m.Ap m.np m.cp), .any, .any, .any, .any, .any, .any, .any, .sl 1 m.M1 (tx m.w1), .v (.slice m.Ad m.nd m.cd), .any, .v (.slice m.Aq m.nq m.cq)]
def Big (m : MV) (n0 n1 : Nat) : Prop := m.M0 > 70 ∨ m.M1 > 260 ∨ n0 > 70 ∨ n1 > 260 ∨ m.np > 10 ∨ m.nd > 80 ∨ m.nq > 40
instance (m : MV) (n0 n1 : Nat) : Decidable (Big m n0 n1) := by unfold Big; infer_instance
theorem great_ct (m : MV) (c : Int) (n0 n1 : Nat) (k0 k1 : KL) (r : List UInt8) : Ct Tryd.prog 12 [.agg m.lv, shot c n0 n1 k0 k1 r] (.v (.int .i64 (if Big m n0 n1 then 1 else 0))) := by
  have yes : Big m n0 n1 → (1 : Int) = if Big m n0 n1 then 1 else 0 := fun h => by rw [if_pos h]
  refine Ct.enter Tryd.tabOk ft12 ?_
  refine ⟨fun h1 => ?_, fun h1 => ⟨fun h2 => ?_, fun h2 => ⟨fun h3 => ?_, fun h3 => ⟨fun h4 => ?_, fun h4 => ⟨fun h5 => ?_, fun h5 => ⟨fun h6 => ?_, fun h6 => ⟨fun h7 => ?_, fun h7 => ?_⟩⟩⟩⟩⟩⟩⟩
  · exact ⟨LV.le.int (yes (.inl (by have := dT h1; omega))), rfl⟩
  · exact ⟨LV.le.int (yes (.inr (.inl (by have := dT h2; omega)))), rfl⟩
  · exact ⟨LV.le.int (yes (.inr (.inr (.inl (by have := dT h3; omega))))), rfl⟩
  · exact ⟨LV.le.int (yes (.inr (.inr (.inr (.inl (by have := dT h4; omega)))))), rfl⟩
  · exact ⟨LV.le.int (yes (.inr (.inr (.inr (.inr (.inl (by have := dT h5; omega))))))), rfl⟩
  · exact ⟨LV.le.int (yes (.inr (.inr (.inr (.inr (.inr (.inl (by have := dT h6; omega)))))))), rfl⟩
  · exact ⟨LV.le.int (yes (.inr (.inr (.inr (.inr (.inr (.inr (by have := dT h7; omega)))))))), rfl⟩
  · refine ⟨LV.le.int ?_, rfl⟩
    rw [if_neg]
    have a1 := dF h1; have a2 := dF h2; have a3 := dF h3; have a4 := dF h4; have a5 := dF h5; have a6 := dF h6; have a7 := dF h7
    unfold Big
    omega
end Go.Proofs.Aw
