/- A PART OF THE PROOF: an abstract run of the loaded code over value trees, and the functions walked by it. No condition of its own. -/
import Derived.Test.YtanmknmlphkeaaaDoorD13
namespace Go.Proofs.Aw
open Go Go.Proofs
set_option maxHeartbeats 8000000
set_option maxRecDepth 100000
theorem kept_ct (n : Nat) (a b : KL) (hn : n ≤ 400) (h : ∀ i, i < n → a i = b i) : Ct Tryd.prog 31 [.sl 2 n (kv a), .sl 2 n (kv b)] (.v (.bool true)) := by
  refine Ct.enter Tryd.tabOk ft31 ?_
  refine ⟨fun h => absurd h (by simp), fun _ => ?_⟩
  refine ⟨Nat, fun j => ⟨[(5, .v (.int .i64 (j : Int))), (0, .sl 2 n (kv a)), (1, .sl 2 n (kv b))], [], 0, 0⟩, fun j => j ≤ n, fun j => n - j, 0, Nat.zero_le _,
    .le ⟨rfl, ⟨rfl, Nat.le_refl _⟩, ⟨LV.le.refl _, rfl, LV.le.refl _, rfl, LV.le.refl _, rfl, trivial⟩, trivial⟩, fun j hj => ⟨fun h1 => ?_, fun h1 => ?_⟩⟩
  · have h1 := dT h1
    have ej := h j (by omega)
    have e11 : IntKind.i64.wrap ((j : Int) + 1) = ((j + 1 : Nat) : Int) := by rw [w64] <;> omega
    refine DrawA.run Tryd.tabOk Tryd.mixed [0, 0, 3, 7, 0, 0, 48, 112, 255] [] rfl ?_
    refine ⟨_, ⟨LV.le.refl _, rfl⟩, ?_⟩
    refine ⟨_, ⟨LV.le.refl _, rfl⟩, ?_⟩
    refine ⟨_, ⟨⟨by omega, by omega⟩, LV.le.refl _, rfl⟩, ?_⟩
    refine ⟨_, ⟨LV.le.refl _, rfl⟩, ?_⟩
    refine ⟨_, ⟨LV.le.refl _, rfl⟩, ?_⟩
    refine ⟨_, ⟨LV.le.refl _, rfl⟩, ?_⟩
    refine ⟨_, ⟨⟨by omega, by omega⟩, LV.le.refl _, rfl⟩, ?_⟩
    refine ⟨_, ⟨LV.le.refl _, rfl⟩, ?_⟩
    refine ⟨.v (.bool false), ⟨_, eqF_kept (a j).1 (b j).1 (a j).2 (b j).2, LV.le.bsV (by rw [ej]; simp), rfl⟩, ?_⟩
    refine ⟨True.intro, ?_⟩
    exact ⟨j + 1, (by omega : j + 1 ≤ n), (by omega : n - (j + 1) < n - j), .le ⟨rfl, ⟨rfl, Nat.le_refl _⟩, ⟨LV.le.int e11, rfl, LV.le.refl _, rfl, LV.le.refl _, rfl, trivial⟩, trivial⟩⟩
  · exact ⟨LV.le.refl _, rfl⟩
theorem same_ct (c : Int) (n0 n1 : Nat) (a0 a1 b0 b1 : KL) (r : List UInt8) (h0 : n0 ≤ 400) (h1 : n1 ≤ 400) (e0 : ∀ i, i < n0 → a0 i = b0 i) (e1 : ∀ i, i < n1 → a1 i = b1 i) :
    Ct Tryd.prog 16 [shot c n0 n1 a0 a1 r, shot c n0 n1 b0 b1 r] (.v (.bool true)) := by
  refine Ct.enter Tryd.tabOk ft16 ?_
  refine ⟨fun _ => ?_, fun h => absurd h (by simp)⟩
  refine ⟨fun _ => ?_, fun h => absurd h (by simp)⟩
  refine Ct.callC (kept_ct n0 a0 b0 h0 e0) rfl (leL.refl _) ?_
  refine Ct.callC (kept_ct n1 a1 b1 h1 e1) rfl (leL.refl _) ?_
  exact ⟨LV.le.refl _, rfl⟩
end Go.Proofs.Aw
