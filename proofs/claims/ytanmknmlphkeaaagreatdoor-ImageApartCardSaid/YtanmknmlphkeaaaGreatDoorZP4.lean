/- A PART OF THE PROOF: an abstract run of the loaded code over value trees, and the functions walked by it. No condition of its own. -/
import Derived.Test.YtanmknmlphkeaaaGreatDoorGZN9
namespace Go.Proofs.Aw
open Go Go.Proofs Go.RowKit
set_option maxHeartbeats 8000000
set_option maxRecDepth 100000
def catN (g : Nat → List UInt8) : Nat → List UInt8
  | 0 => []
  | n + 1 => catN g n ++ g n
theorem catN_len {g : Nat → List UInt8} {b : Nat} (h : ∀ i, (g i).length = b) : ∀ n, (catN g n).length = n * b
  | 0 => by simp [catN]
  | n + 1 => by
    have e : (n + 1) * b = n * b + b := Nat.succ_mul _ _
    simp only [catN, List.length_append, catN_len h n, h n, e]
/-- an int as a byte, as a number of eight bytes -/
def b8 (x : Int) : UInt8 := UInt8.ofNat (x % 256).toNat
def n64 (x : Int) : Nat := (x % 18446744073709551616).toNat
theorem w8b (x : Int) : IntKind.u8.wrap x = ((b8 x).toNat : Int) := w8 _ (x % 256).toNat (by omega) (by omega)
theorem wn64 (x : Int) : IntKind.u64.wrap x = ((n64 x : Nat) : Int) := by
  have h1 : 0 ≤ x % 18446744073709551616 := by omega
  show x % 18446744073709551616 = (((x % 18446744073709551616).toNat : Nat) : Int)
  omega
theorem n64_lt (x : Int) : n64 x < 18446744073709551616 := by unfold n64; omega
theorem put1 (x : Int) : putF (n64 x) 1 = [b8 x] := by
  show [UInt8.ofNat (n64 x / 256 ^ 0 % 256)] = [UInt8.ofNat (x % 256).toNat]
  congr 2
  unfold n64
  omega
def rgB (p : PV) (k : Nat) : List UInt8 := putF (n64 (p.R k)) 4
def cpuB (p : PV) : List UInt8 := catN (rgB p) 16 ++ putF (n64 p.pc) 4
def pgB (x : Bool × Bool × Int) : List UInt8 := if x.1 then (if x.2.1 then [2, b8 x.2.2] else [1, b8 x.2.2]) else [0, 0]
def spB (p : PV) : List UInt8 := catN (fun k => pgB (p.pt k)) 16
def fdB (x : Int × Int × Int) : List UInt8 := [b8 x.1] ++ putF (n64 x.2.1) 8 ++ putF (n64 x.2.2) 8
def fdsB (p : PV) : List UInt8 := catN (fun k => fdB (p.fd k)) 8
theorem rgB_len (p : PV) (k : Nat) : (rgB p k).length = 4 := putF_len _ _
theorem pgB_len (x : Bool × Bool × Int) : (pgB x).length = 2 := by unfold pgB; split; split <;> rfl; rfl
theorem fdB_len (x : Int × Int × Int) : (fdB x).length = 17 := by simp [fdB, putF_len]
theorem cpuB_len (p : PV) : (cpuB p).length = 68 := by simp only [cpuB, List.length_append, catN_len (rgB_len p), putF_len]
theorem spB_len (p : PV) : (spB p).length = 32 := by simp only [spB, catN_len fun k => pgB_len (p.pt k)]
theorem fdsB_len (p : PV) : (fdsB p).length = 136 := by simp only [fdsB, catN_len fun k => fdB_len (p.fd k)]
def PV.cpc (p : PV) : List LV := [uv (p.R 0), uv (p.R 1), uv (p.R 2), uv (p.R 3), uv (p.R 4), uv (p.R 5), uv (p.R 6), uv (p.R 7), uv (p.R 8), uv (p.R 9), uv (p.R 10), uv (p.R 11), uv (p.R 12), uv (p.R 13), uv (p.R 14), uv (p.R 15), uv p.pc]
theorem cr_at (p : PV) : ∀ k : Nat, k < 16 → loadK Tryz.ti65 p.cpc (0 + (0, 66).1 + ((k : Nat) : Int).toNat * Tryz.ti65.size) (fun y => y = uv (p.R k)) := below16 ⟨rfl, rfl, rfl, rfl, rfl, rfl, rfl, rfl, rfl, rfl, rfl, rfl, rfl, rfl, rfl, rfl⟩
theorem rcpu_ct (p : PV) : Ct Tryz.prog 147 [.agg p.cpc] (.str (cpuB p)) := by
  refine Ct.enter Tryz.tab2Ok ft147 ?_
  refine ⟨Nat, fun j => ⟨[(4, iv (j : Int)), (3, .str (catN (rgB p) j)), (1, .lp 0 0)], [(0, .box 68 p.cpc)], 1, 0⟩, fun j => j ≤ 16 ∧ True, fun j => 16 - j, 0, ⟨Nat.zero_le _, True.intro⟩, .le ⟨rfl, ⟨rfl, Nat.le_of_ble_eq_true rfl⟩, ⟨LV.le.refl _, rfl, LV.le.refl _, rfl, LV.le.refl _, rfl, trivial⟩, ⟨⟨_, rfl, LO.le.refl _⟩, rfl, rfl, trivial⟩⟩, fun j hj => ⟨fun h => ?_, fun h => ?_⟩⟩
  · obtain ⟨hj, hp⟩ := hj
    have h := dT h
    have h : (j : Int) < ((16 : Nat) : Int) := h
    have hj : j < 16 := by omega
    have ej := w1 hj (by omega)
    have hl := catN_len (rgB_len p) j
    refine ⟨⟨by omega, by omega⟩, ?_⟩
    refine loadK_at _ (cr_at p j hj) ?_
    refine Ct.callC (rput_ct (n64 (p.R j)) 4 (n64_lt _) (by omega)) rfl ⟨_, _, rfl, LV.le.int (wn64 _), _, _, rfl, LV.le.refl _, rfl⟩ ?_
    have hl2 := rgB_len p j
    refine ⟨by show (catN (rgB p) j).length + (rgB p j).length ≤ _; omega, ?_⟩
    exact ⟨j + 1, ⟨(by omega : j + 1 ≤ 16), True.intro⟩, (by omega : 16 - (j + 1) < 16 - j), .le ⟨rfl, ⟨rfl, Nat.le_of_ble_eq_true rfl⟩, ⟨LV.le.int ej, rfl, LV.le.refl _, rfl, LV.le.refl _, rfl, trivial⟩, ⟨⟨_, rfl, LO.le.refl _⟩, rfl, rfl, trivial⟩⟩⟩
  · obtain ⟨hj, hp⟩ := hj
    have h := dF h
    have h : ¬ (j : Int) < ((16 : Nat) : Int) := h
    have hn : j = 16 := by have : j ≤ 16 := hj; omega
    subst hn
    have hl := catN_len (rgB_len p) 16
    refine Ct.callC (rput_ct (n64 p.pc) 4 (n64_lt _) (by omega)) rfl ⟨_, _, rfl, LV.le.int (wn64 _), _, _, rfl, LV.le.refl _, rfl⟩ ?_
    have hl2 := putF_len (n64 p.pc) 4
    refine ⟨by show (catN (rgB p) 16).length + (putF (n64 p.pc) 4).length ≤ _; omega, ?_⟩
    exact ⟨LV.le.refl _, rfl⟩
theorem pt_at0 (p : PV) : ∀ k : Nat, k < 16 → loadK Tryz.ti70 p.ptc (0 + ((k : Nat) : Int).toNat * Tryz.ti70.size) (fun y => y = .agg (pte (p.pt k))) := below16 ⟨rfl, rfl, rfl, rfl, rfl, rfl, rfl, rfl, rfl, rfl, rfl, rfl, rfl, rfl, rfl, rfl⟩
theorem rspace_ct (p : PV) : Ct Tryz.prog 148 [.agg p.ptc] (.str (spB p)) := by
  refine Ct.enter Tryz.tab2Ok ft148 ?_
  refine ⟨Nat, fun j => ⟨[(4, iv (j : Int)), (3, .str (catN (fun k => pgB (p.pt k)) j)), (1, .lp 0 0)], [(0, .box 72 p.ptc)], 1, 0⟩, fun j => j ≤ 16 ∧ True, fun j => 16 - j, 0, ⟨Nat.zero_le _, True.intro⟩, .le ⟨rfl, ⟨rfl, Nat.le_of_ble_eq_true rfl⟩, ⟨LV.le.refl _, rfl, LV.le.refl _, rfl, LV.le.refl _, rfl, trivial⟩, ⟨⟨_, rfl, LO.le.refl _⟩, rfl, rfl, trivial⟩⟩, fun j hj => ⟨fun h => ?_, fun h => ?_⟩⟩
  · obtain ⟨hj, hp⟩ := hj
    have h := dT h
    have h : (j : Int) < ((16 : Nat) : Int) := h
    have hj : j < 16 := by omega
    have ej := w1 hj (by omega)
    have hl := catN_len (fun k => pgB_len (p.pt k)) j
    refine ⟨⟨by omega, by omega⟩, ?_⟩
    clear h
    rcases (by omega : j = 0 ∨ j = 1 ∨ j = 2 ∨ j = 3 ∨ j = 4 ∨ j = 5 ∨ j = 6 ∨ j = 7 ∨ j = 8 ∨ j = 9 ∨ j = 10 ∨ j = 11 ∨ j = 12 ∨ j = 13 ∨ j = 14 ∨ j = 15) with rfl | rfl | rfl | rfl | rfl | rfl | rfl | rfl | rfl | rfl | rfl | rfl | rfl | rfl | rfl | rfl
    · refine ⟨fun a => ?_, fun a => ⟨fun b => ?_, fun b => ?_⟩⟩
      · have a := nbT a
        have e : pgB (p.pt 0) = [0, 0] := by unfold pgB; rw [a]; rfl
        refine ⟨by show (catN (fun k => pgB (p.pt k)) 0).length + 2 ≤ _; omega, ?_⟩
        exact ⟨0 + 1, ⟨(by omega : 0 + 1 ≤ 16), True.intro⟩, (by omega : 16 - (0 + 1) < 16 - 0), .le ⟨rfl, ⟨rfl, Nat.le_of_ble_eq_true rfl⟩, ⟨LV.le.int ej, rfl, LV.le.eq (congrArg LV.str (by show _ = catN (fun k => pgB (p.pt k)) 0 ++ pgB (p.pt 0); rw [e])), rfl, LV.le.refl _, rfl, trivial⟩, ⟨⟨_, rfl, LO.le.refl _⟩, rfl, rfl, trivial⟩⟩⟩
      · have a := nbF a
        have e : pgB (p.pt 0) = [2, b8 (p.pt 0).2.2] := by unfold pgB; rw [a, b]; rfl
        refine ⟨by show (catN (fun k => pgB (p.pt k)) 0).length + 1 ≤ _; omega, [b8 (p.pt 0).2.2], ⟨rfl, fun i (hi : i < 1) => ?_⟩, ?_⟩
        · obtain rfl : i = 0 := by omega
          exact congrArg (fun z => [LV.v (.int .u8 z)]) (w8b _)
        refine ⟨by show ((catN (fun k => pgB (p.pt k)) 0) ++ [2]).length + 1 ≤ _; rw [List.length_append]; show _ + 1 + 1 ≤ _; omega, ?_⟩
        exact ⟨0 + 1, ⟨(by omega : 0 + 1 ≤ 16), True.intro⟩, (by omega : 16 - (0 + 1) < 16 - 0), .le ⟨rfl, ⟨rfl, Nat.le_of_ble_eq_true rfl⟩, ⟨LV.le.int ej, rfl, LV.le.eq (congrArg LV.str (by show _ = catN (fun k => pgB (p.pt k)) 0 ++ pgB (p.pt 0); rw [e]; simp)), rfl, LV.le.refl _, rfl, trivial⟩, ⟨⟨_, rfl, LO.le.refl _⟩, rfl, rfl, trivial⟩⟩⟩
      · have a := nbF a
        have e : pgB (p.pt 0) = [1, b8 (p.pt 0).2.2] := by unfold pgB; rw [a, b]; rfl
        refine ⟨by show (catN (fun k => pgB (p.pt k)) 0).length + 1 ≤ _; omega, [b8 (p.pt 0).2.2], ⟨rfl, fun i (hi : i < 1) => ?_⟩, ?_⟩
        · obtain rfl : i = 0 := by omega
          exact congrArg (fun z => [LV.v (.int .u8 z)]) (w8b _)
        refine ⟨by show ((catN (fun k => pgB (p.pt k)) 0) ++ [1]).length + 1 ≤ _; rw [List.length_append]; show _ + 1 + 1 ≤ _; omega, ?_⟩
        exact ⟨0 + 1, ⟨(by omega : 0 + 1 ≤ 16), True.intro⟩, (by omega : 16 - (0 + 1) < 16 - 0), .le ⟨rfl, ⟨rfl, Nat.le_of_ble_eq_true rfl⟩, ⟨LV.le.int ej, rfl, LV.le.eq (congrArg LV.str (by show _ = catN (fun k => pgB (p.pt k)) 0 ++ pgB (p.pt 0); rw [e]; simp)), rfl, LV.le.refl _, rfl, trivial⟩, ⟨⟨_, rfl, LO.le.refl _⟩, rfl, rfl, trivial⟩⟩⟩
    · refine ⟨fun a => ?_, fun a => ⟨fun b => ?_, fun b => ?_⟩⟩
      · have a := nbT a
        have e : pgB (p.pt 1) = [0, 0] := by unfold pgB; rw [a]; rfl
        refine ⟨by show (catN (fun k => pgB (p.pt k)) 1).length + 2 ≤ _; omega, ?_⟩
        exact ⟨1 + 1, ⟨(by omega : 1 + 1 ≤ 16), True.intro⟩, (by omega : 16 - (1 + 1) < 16 - 1), .le ⟨rfl, ⟨rfl, Nat.le_of_ble_eq_true rfl⟩, ⟨LV.le.int ej, rfl, LV.le.eq (congrArg LV.str (by show _ = catN (fun k => pgB (p.pt k)) 1 ++ pgB (p.pt 1); rw [e])), rfl, LV.le.refl _, rfl, trivial⟩, ⟨⟨_, rfl, LO.le.refl _⟩, rfl, rfl, trivial⟩⟩⟩
      · have a := nbF a
        have e : pgB (p.pt 1) = [2, b8 (p.pt 1).2.2] := by unfold pgB; rw [a, b]; rfl
        refine ⟨by show (catN (fun k => pgB (p.pt k)) 1).length + 1 ≤ _; omega, [b8 (p.pt 1).2.2], ⟨rfl, fun i (hi : i < 1) => ?_⟩, ?_⟩
        · obtain rfl : i = 0 := by omega
          exact congrArg (fun z => [LV.v (.int .u8 z)]) (w8b _)
        refine ⟨by show ((catN (fun k => pgB (p.pt k)) 1) ++ [2]).length + 1 ≤ _; rw [List.length_append]; show _ + 1 + 1 ≤ _; omega, ?_⟩
        exact ⟨1 + 1, ⟨(by omega : 1 + 1 ≤ 16), True.intro⟩, (by omega : 16 - (1 + 1) < 16 - 1), .le ⟨rfl, ⟨rfl, Nat.le_of_ble_eq_true rfl⟩, ⟨LV.le.int ej, rfl, LV.le.eq (congrArg LV.str (by show _ = catN (fun k => pgB (p.pt k)) 1 ++ pgB (p.pt 1); rw [e]; simp)), rfl, LV.le.refl _, rfl, trivial⟩, ⟨⟨_, rfl, LO.le.refl _⟩, rfl, rfl, trivial⟩⟩⟩
      · have a := nbF a
        have e : pgB (p.pt 1) = [1, b8 (p.pt 1).2.2] := by unfold pgB; rw [a, b]; rfl
        refine ⟨by show (catN (fun k => pgB (p.pt k)) 1).length + 1 ≤ _; omega, [b8 (p.pt 1).2.2], ⟨rfl, fun i (hi : i < 1) => ?_⟩, ?_⟩
        · obtain rfl : i = 0 := by omega
          exact congrArg (fun z => [LV.v (.int .u8 z)]) (w8b _)
        refine ⟨by show ((catN (fun k => pgB (p.pt k)) 1) ++ [1]).length + 1 ≤ _; rw [List.length_append]; show _ + 1 + 1 ≤ _; omega, ?_⟩
        exact ⟨1 + 1, ⟨(by omega : 1 + 1 ≤ 16), True.intro⟩, (by omega : 16 - (1 + 1) < 16 - 1), .le ⟨rfl, ⟨rfl, Nat.le_of_ble_eq_true rfl⟩, ⟨LV.le.int ej, rfl, LV.le.eq (congrArg LV.str (by show _ = catN (fun k => pgB (p.pt k)) 1 ++ pgB (p.pt 1); rw [e]; simp)), rfl, LV.le.refl _, rfl, trivial⟩, ⟨⟨_, rfl, LO.le.refl _⟩, rfl, rfl, trivial⟩⟩⟩
    · refine ⟨fun a => ?_, fun a => ⟨fun b => ?_, fun b => ?_⟩⟩
      · have a := nbT a
        have e : pgB (p.pt 2) = [0, 0] := by unfold pgB; rw [a]; rfl
        refine ⟨by show (catN (fun k => pgB (p.pt k)) 2).length + 2 ≤ _; omega, ?_⟩
        exact ⟨2 + 1, ⟨(by omega : 2 + 1 ≤ 16), True.intro⟩, (by omega : 16 - (2 + 1) < 16 - 2), .le ⟨rfl, ⟨rfl, Nat.le_of_ble_eq_true rfl⟩, ⟨LV.le.int ej, rfl, LV.le.eq (congrArg LV.str (by show _ = catN (fun k => pgB (p.pt k)) 2 ++ pgB (p.pt 2); rw [e])), rfl, LV.le.refl _, rfl, trivial⟩, ⟨⟨_, rfl, LO.le.refl _⟩, rfl, rfl, trivial⟩⟩⟩
      · have a := nbF a
        have e : pgB (p.pt 2) = [2, b8 (p.pt 2).2.2] := by unfold pgB; rw [a, b]; rfl
        refine ⟨by show (catN (fun k => pgB (p.pt k)) 2).length + 1 ≤ _; omega, [b8 (p.pt 2).2.2], ⟨rfl, fun i (hi : i < 1) => ?_⟩, ?_⟩
        · obtain rfl : i = 0 := by omega
          exact congrArg (fun z => [LV.v (.int .u8 z)]) (w8b _)
        refine ⟨by show ((catN (fun k => pgB (p.pt k)) 2) ++ [2]).length + 1 ≤ _; rw [List.length_append]; show _ + 1 + 1 ≤ _; omega, ?_⟩
        exact ⟨2 + 1, ⟨(by omega : 2 + 1 ≤ 16), True.intro⟩, (by omega : 16 - (2 + 1) < 16 - 2), .le ⟨rfl, ⟨rfl, Nat.le_of_ble_eq_true rfl⟩, ⟨LV.le.int ej, rfl, LV.le.eq (congrArg LV.str (by show _ = catN (fun k => pgB (p.pt k)) 2 ++ pgB (p.pt 2); rw [e]; simp)), rfl, LV.le.refl _, rfl, trivial⟩, ⟨⟨_, rfl, LO.le.refl _⟩, rfl, rfl, trivial⟩⟩⟩
      · have a := nbF a
        have e : pgB (p.pt 2) = [1, b8 (p.pt 2).2.2] := by unfold pgB; rw [a, b]; rfl
        refine ⟨by show (catN (fun k => pgB (p.pt k)) 2).length + 1 ≤ _; omega, [b8 (p.pt 2).2.2], ⟨rfl, fun i (hi : i < 1) => ?_⟩, ?_⟩
        · obtain rfl : i = 0 := by omega
          exact congrArg (fun z => [LV.v (.int .u8 z)]) (w8b _)
        refine ⟨by show ((catN (fun k => pgB (p.pt k)) 2) ++ [1]).length + 1 ≤ _; rw [List.length_append]; show _ + 1 + 1 ≤ _; omega, ?_⟩
        exact ⟨2 + 1, ⟨(by omega : 2 + 1 ≤ 16), True.intro⟩, (by omega : 16 - (2 + 1) < 16 - 2), .le ⟨rfl, ⟨rfl, Nat.le_of_ble_eq_true rfl⟩, ⟨LV.le.int ej, rfl, LV.le.eq (congrArg LV.str (by show _ = catN (fun k => pgB (p.pt k)) 2 ++ pgB (p.pt 2); rw [e]; simp)), rfl, LV.le.refl _, rfl, trivial⟩, ⟨⟨_, rfl, LO.le.refl _⟩, rfl, rfl, trivial⟩⟩⟩
    · refine ⟨fun a => ?_, fun a => ⟨fun b => ?_, fun b => ?_⟩⟩
      · have a := nbT a
        have e : pgB (p.pt 3) = [0, 0] := by unfold pgB; rw [a]; rfl
        refine ⟨by show (catN (fun k => pgB (p.pt k)) 3).length + 2 ≤ _; omega, ?_⟩
        exact ⟨3 + 1, ⟨(by omega : 3 + 1 ≤ 16), True.intro⟩, (by omega : 16 - (3 + 1) < 16 - 3), .le ⟨rfl, ⟨rfl, Nat.le_of_ble_eq_true rfl⟩, ⟨LV.le.int ej, rfl, LV.le.eq (congrArg LV.str (by show _ = catN (fun k => pgB (p.pt k)) 3 ++ pgB (p.pt 3); rw [e])), rfl, LV.le.refl _, rfl, trivial⟩, ⟨⟨_, rfl, LO.le.refl _⟩, rfl, rfl, trivial⟩⟩⟩
      · have a := nbF a
        have e : pgB (p.pt 3) = [2, b8 (p.pt 3).2.2] := by unfold pgB; rw [a, b]; rfl
        refine ⟨by show (catN (fun k => pgB (p.pt k)) 3).length + 1 ≤ _; omega, [b8 (p.pt 3).2.2], ⟨rfl, fun i (hi : i < 1) => ?_⟩, ?_⟩
        · obtain rfl : i = 0 := by omega
          exact congrArg (fun z => [LV.v (.int .u8 z)]) (w8b _)
        refine ⟨by show ((catN (fun k => pgB (p.pt k)) 3) ++ [2]).length + 1 ≤ _; rw [List.length_append]; show _ + 1 + 1 ≤ _; omega, ?_⟩
        exact ⟨3 + 1, ⟨(by omega : 3 + 1 ≤ 16), True.intro⟩, (by omega : 16 - (3 + 1) < 16 - 3), .le ⟨rfl, ⟨rfl, Nat.le_of_ble_eq_true rfl⟩, ⟨LV.le.int ej, rfl, LV.le.eq (congrArg LV.str (by show _ = catN (fun k => pgB (p.pt k)) 3 ++ pgB (p.pt 3); rw [e]; simp)), rfl, LV.le.refl _, rfl, trivial⟩, ⟨⟨_, rfl, LO.le.refl _⟩, rfl, rfl, trivial⟩⟩⟩
      · have a := nbF a
        have e : pgB (p.pt 3) = [1, b8 (p.pt 3).2.2] := by unfold pgB; rw [a, b]; rfl
        refine ⟨by show (catN (fun k => pgB (p.pt k)) 3).length + 1 ≤ _; omega, [b8 (p.pt 3).2.2], ⟨rfl, fun i (hi : i < 1) => ?_⟩, ?_⟩
        · obtain rfl : i = 0 := by omega
          exact congrArg (fun z => [LV.v (.int .u8 z)]) (w8b _)
        refine ⟨by show ((catN (fun k => pgB (p.pt k)) 3) ++ [1]).length + 1 ≤ _; rw [List.length_append]; show _ + 1 + 1 ≤ _; omega, ?_⟩
        exact ⟨3 + 1, ⟨(by omega : 3 + 1 ≤ 16), True.intro⟩, (by omega : 16 - (3 + 1) < 16 - 3), .le ⟨rfl, ⟨rfl, Nat.le_of_ble_eq_true rfl⟩, ⟨LV.le.int ej, rfl, LV.le.eq (congrArg LV.str (by show _ = catN (fun k => pgB (p.pt k)) 3 ++ pgB (p.pt 3); rw [e]; simp)), rfl, LV.le.refl _, rfl, trivial⟩, ⟨⟨_, rfl, LO.le.refl _⟩, rfl, rfl, trivial⟩⟩⟩
    · refine ⟨fun a => ?_, fun a => ⟨fun b => ?_, fun b => ?_⟩⟩
      · have a := nbT a
        have e : pgB (p.pt 4) = [0, 0] := by unfold pgB; rw [a]; rfl
        refine ⟨by show (catN (fun k => pgB (p.pt k)) 4).length + 2 ≤ _; omega, ?_⟩
        exact ⟨4 + 1, ⟨(by omega : 4 + 1 ≤ 16), True.intro⟩, (by omega : 16 - (4 + 1) < 16 - 4), .le ⟨rfl, ⟨rfl, Nat.le_of_ble_eq_true rfl⟩, ⟨LV.le.int ej, rfl, LV.le.eq (congrArg LV.str (by show _ = catN (fun k => pgB (p.pt k)) 4 ++ pgB (p.pt 4); rw [e])), rfl, LV.le.refl _, rfl, trivial⟩, ⟨⟨_, rfl, LO.le.refl _⟩, rfl, rfl, trivial⟩⟩⟩
      · have a := nbF a
        have e : pgB (p.pt 4) = [2, b8 (p.pt 4).2.2] := by unfold pgB; rw [a, b]; rfl
        refine ⟨by show (catN (fun k => pgB (p.pt k)) 4).length + 1 ≤ _; omega, [b8 (p.pt 4).2.2], ⟨rfl, fun i (hi : i < 1) => ?_⟩, ?_⟩
        · obtain rfl : i = 0 := by omega
          exact congrArg (fun z => [LV.v (.int .u8 z)]) (w8b _)
        refine ⟨by show ((catN (fun k => pgB (p.pt k)) 4) ++ [2]).length + 1 ≤ _; rw [List.length_append]; show _ + 1 + 1 ≤ _; omega, ?_⟩
        exact ⟨4 + 1, ⟨(by omega : 4 + 1 ≤ 16), True.intro⟩, (by omega : 16 - (4 + 1) < 16 - 4), .le ⟨rfl, ⟨rfl, Nat.le_of_ble_eq_true rfl⟩, ⟨LV.le.int ej, rfl, LV.le.eq (congrArg LV.str (by show _ = catN (fun k => pgB (p.pt k)) 4 ++ pgB (p.pt 4); rw [e]; simp)), rfl, LV.le.refl _, rfl, trivial⟩, ⟨⟨_, rfl, LO.le.refl _⟩, rfl, rfl, trivial⟩⟩⟩
      · have a := nbF a
        have e : pgB (p.pt 4) = [1, b8 (p.pt 4).2.2] := by unfold pgB; rw [a, b]; rfl
        refine ⟨by show (catN (fun k => pgB (p.pt k)) 4).length + 1 ≤ _; omega, [b8 (p.pt 4).2.2], ⟨rfl, fun i (hi : i < 1) => ?_⟩, ?_⟩
        · obtain rfl : i = 0 := by omega
          exact congrArg (fun z => [LV.v (.int .u8 z)]) (w8b _)
        refine ⟨by show ((catN (fun k => pgB (p.pt k)) 4) ++ [1]).length + 1 ≤ _; rw [List.length_append]; show _ + 1 + 1 ≤ _; omega, ?_⟩
        exact ⟨4 + 1, ⟨(by omega : 4 + 1 ≤ 16), True.intro⟩, (by omega : 16 - (4 + 1) < 16 - 4), .le ⟨rfl, ⟨rfl, Nat.le_of_ble_eq_true rfl⟩, ⟨LV.le.int ej, rfl, LV.le.eq (congrArg LV.str (by show _ = catN (fun k => pgB (p.pt k)) 4 ++ pgB (p.pt 4); rw [e]; simp)), rfl, LV.le.refl _, rfl, trivial⟩, ⟨⟨_, rfl, LO.le.refl _⟩, rfl, rfl, trivial⟩⟩⟩
    · refine ⟨fun a => ?_, fun a => ⟨fun b => ?_, fun b => ?_⟩⟩
      · have a := nbT a
        have e : pgB (p.pt 5) = [0, 0] := by unfold pgB; rw [a]; rfl
        refine ⟨by show (catN (fun k => pgB (p.pt k)) 5).length + 2 ≤ _; omega, ?_⟩
        exact ⟨5 + 1, ⟨(by omega : 5 + 1 ≤ 16), True.intro⟩, (by omega : 16 - (5 + 1) < 16 - 5), .le ⟨rfl, ⟨rfl, Nat.le_of_ble_eq_true rfl⟩, ⟨LV.le.int ej, rfl, LV.le.eq (congrArg LV.str (by show _ = catN (fun k => pgB (p.pt k)) 5 ++ pgB (p.pt 5); rw [e])), rfl, LV.le.refl _, rfl, trivial⟩, ⟨⟨_, rfl, LO.le.refl _⟩, rfl, rfl, trivial⟩⟩⟩
      · have a := nbF a
        have e : pgB (p.pt 5) = [2, b8 (p.pt 5).2.2] := by unfold pgB; rw [a, b]; rfl
        refine ⟨by show (catN (fun k => pgB (p.pt k)) 5).length + 1 ≤ _; omega, [b8 (p.pt 5).2.2], ⟨rfl, fun i (hi : i < 1) => ?_⟩, ?_⟩
        · obtain rfl : i = 0 := by omega
          exact congrArg (fun z => [LV.v (.int .u8 z)]) (w8b _)
        refine ⟨by show ((catN (fun k => pgB (p.pt k)) 5) ++ [2]).length + 1 ≤ _; rw [List.length_append]; show _ + 1 + 1 ≤ _; omega, ?_⟩
        exact ⟨5 + 1, ⟨(by omega : 5 + 1 ≤ 16), True.intro⟩, (by omega : 16 - (5 + 1) < 16 - 5), .le ⟨rfl, ⟨rfl, Nat.le_of_ble_eq_true rfl⟩, ⟨LV.le.int ej, rfl, LV.le.eq (congrArg LV.str (by show _ = catN (fun k => pgB (p.pt k)) 5 ++ pgB (p.pt 5); rw [e]; simp)), rfl, LV.le.refl _, rfl, trivial⟩, ⟨⟨_, rfl, LO.le.refl _⟩, rfl, rfl, trivial⟩⟩⟩
      · have a := nbF a
        have e : pgB (p.pt 5) = [1, b8 (p.pt 5).2.2] := by unfold pgB; rw [a, b]; rfl
        refine ⟨by show (catN (fun k => pgB (p.pt k)) 5).length + 1 ≤ _; omega, [b8 (p.pt 5).2.2], ⟨rfl, fun i (hi : i < 1) => ?_⟩, ?_⟩
        · obtain rfl : i = 0 := by omega
          exact congrArg (fun z => [LV.v (.int .u8 z)]) (w8b _)
        refine ⟨by show ((catN (fun k => pgB (p.pt k)) 5) ++ [1]).length + 1 ≤ _; rw [List.length_append]; show _ + 1 + 1 ≤ _; omega, ?_⟩
        exact ⟨5 + 1, ⟨(by omega : 5 + 1 ≤ 16), True.intro⟩, (by omega : 16 - (5 + 1) < 16 - 5), .le ⟨rfl, ⟨rfl, Nat.le_of_ble_eq_true rfl⟩, ⟨LV.le.int ej, rfl, LV.le.eq (congrArg LV.str (by show _ = catN (fun k => pgB (p.pt k)) 5 ++ pgB (p.pt 5); rw [e]; simp)), rfl, LV.le.refl _, rfl, trivial⟩, ⟨⟨_, rfl, LO.le.refl _⟩, rfl, rfl, trivial⟩⟩⟩
    · refine ⟨fun a => ?_, fun a => ⟨fun b => ?_, fun b => ?_⟩⟩
      · have a := nbT a
        have e : pgB (p.pt 6) = [0, 0] := by unfold pgB; rw [a]; rfl
        refine ⟨by show (catN (fun k => pgB (p.pt k)) 6).length + 2 ≤ _; omega, ?_⟩
        exact ⟨6 + 1, ⟨(by omega : 6 + 1 ≤ 16), True.intro⟩, (by omega : 16 - (6 + 1) < 16 - 6), .le ⟨rfl, ⟨rfl, Nat.le_of_ble_eq_true rfl⟩, ⟨LV.le.int ej, rfl, LV.le.eq (congrArg LV.str (by show _ = catN (fun k => pgB (p.pt k)) 6 ++ pgB (p.pt 6); rw [e])), rfl, LV.le.refl _, rfl, trivial⟩, ⟨⟨_, rfl, LO.le.refl _⟩, rfl, rfl, trivial⟩⟩⟩
      · have a := nbF a
        have e : pgB (p.pt 6) = [2, b8 (p.pt 6).2.2] := by unfold pgB; rw [a, b]; rfl
        refine ⟨by show (catN (fun k => pgB (p.pt k)) 6).length + 1 ≤ _; omega, [b8 (p.pt 6).2.2], ⟨rfl, fun i (hi : i < 1) => ?_⟩, ?_⟩
        · obtain rfl : i = 0 := by omega
          exact congrArg (fun z => [LV.v (.int .u8 z)]) (w8b _)
        refine ⟨by show ((catN (fun k => pgB (p.pt k)) 6) ++ [2]).length + 1 ≤ _; rw [List.length_append]; show _ + 1 + 1 ≤ _; omega, ?_⟩
        exact ⟨6 + 1, ⟨(by omega : 6 + 1 ≤ 16), True.intro⟩, (by omega : 16 - (6 + 1) < 16 - 6), .le ⟨rfl, ⟨rfl, Nat.le_of_ble_eq_true rfl⟩, ⟨LV.le.int ej, rfl, LV.le.eq (congrArg LV.str (by show _ = catN (fun k => pgB (p.pt k)) 6 ++ pgB (p.pt 6); rw [e]; simp)), rfl, LV.le.refl _, rfl, trivial⟩, ⟨⟨_, rfl, LO.le.refl _⟩, rfl, rfl, trivial⟩⟩⟩
      · have a := nbF a
        have e : pgB (p.pt 6) = [1, b8 (p.pt 6).2.2] := by unfold pgB; rw [a, b]; rfl
        refine ⟨by show (catN (fun k => pgB (p.pt k)) 6).length + 1 ≤ _; omega, [b8 (p.pt 6).2.2], ⟨rfl, fun i (hi : i < 1) => ?_⟩, ?_⟩
        · obtain rfl : i = 0 := by omega
          exact congrArg (fun z => [LV.v (.int .u8 z)]) (w8b _)
        refine ⟨by show ((catN (fun k => pgB (p.pt k)) 6) ++ [1]).length + 1 ≤ _; rw [List.length_append]; show _ + 1 + 1 ≤ _; omega, ?_⟩
        exact ⟨6 + 1, ⟨(by omega : 6 + 1 ≤ 16), True.intro⟩, (by omega : 16 - (6 + 1) < 16 - 6), .le ⟨rfl, ⟨rfl, Nat.le_of_ble_eq_true rfl⟩, ⟨LV.le.int ej, rfl, LV.le.eq (congrArg LV.str (by show _ = catN (fun k => pgB (p.pt k)) 6 ++ pgB (p.pt 6); rw [e]; simp)), rfl, LV.le.refl _, rfl, trivial⟩, ⟨⟨_, rfl, LO.le.refl _⟩, rfl, rfl, trivial⟩⟩⟩
    · refine ⟨fun a => ?_, fun a => ⟨fun b => ?_, fun b => ?_⟩⟩
      · have a := nbT a
        have e : pgB (p.pt 7) = [0, 0] := by unfold pgB; rw [a]; rfl
        refine ⟨by show (catN (fun k => pgB (p.pt k)) 7).length + 2 ≤ _; omega, ?_⟩
        exact ⟨7 + 1, ⟨(by omega : 7 + 1 ≤ 16), True.intro⟩, (by omega : 16 - (7 + 1) < 16 - 7), .le ⟨rfl, ⟨rfl, Nat.le_of_ble_eq_true rfl⟩, ⟨LV.le.int ej, rfl, LV.le.eq (congrArg LV.str (by show _ = catN (fun k => pgB (p.pt k)) 7 ++ pgB (p.pt 7); rw [e])), rfl, LV.le.refl _, rfl, trivial⟩, ⟨⟨_, rfl, LO.le.refl _⟩, rfl, rfl, trivial⟩⟩⟩
      · have a := nbF a
        have e : pgB (p.pt 7) = [2, b8 (p.pt 7).2.2] := by unfold pgB; rw [a, b]; rfl
        refine ⟨by show (catN (fun k => pgB (p.pt k)) 7).length + 1 ≤ _; omega, [b8 (p.pt 7).2.2], ⟨rfl, fun i (hi : i < 1) => ?_⟩, ?_⟩
        · obtain rfl : i = 0 := by omega
          exact congrArg (fun z => [LV.v (.int .u8 z)]) (w8b _)
        refine ⟨by show ((catN (fun k => pgB (p.pt k)) 7) ++ [2]).length + 1 ≤ _; rw [List.length_append]; show _ + 1 + 1 ≤ _; omega, ?_⟩
        exact ⟨7 + 1, ⟨(by omega : 7 + 1 ≤ 16), True.intro⟩, (by omega : 16 - (7 + 1) < 16 - 7), .le ⟨rfl, ⟨rfl, Nat.le_of_ble_eq_true rfl⟩, ⟨LV.le.int ej, rfl, LV.le.eq (congrArg LV.str (by show _ = catN (fun k => pgB (p.pt k)) 7 ++ pgB (p.pt 7); rw [e]; simp)), rfl, LV.le.refl _, rfl, trivial⟩, ⟨⟨_, rfl, LO.le.refl _⟩, rfl, rfl, trivial⟩⟩⟩
      · have a := nbF a
        have e : pgB (p.pt 7) = [1, b8 (p.pt 7).2.2] := by unfold pgB; rw [a, b]; rfl
        refine ⟨by show (catN (fun k => pgB (p.pt k)) 7).length + 1 ≤ _; omega, [b8 (p.pt 7).2.2], ⟨rfl, fun i (hi : i < 1) => ?_⟩, ?_⟩
        · obtain rfl : i = 0 := by omega
          exact congrArg (fun z => [LV.v (.int .u8 z)]) (w8b _)
        refine ⟨by show ((catN (fun k => pgB (p.pt k)) 7) ++ [1]).length + 1 ≤ _; rw [List.length_append]; show _ + 1 + 1 ≤ _; omega, ?_⟩
        exact ⟨7 + 1, ⟨(by omega : 7 + 1 ≤ 16), True.intro⟩, (by omega : 16 - (7 + 1) < 16 - 7), .le ⟨rfl, ⟨rfl, Nat.le_of_ble_eq_true rfl⟩, ⟨LV.le.int ej, rfl, LV.le.eq (congrArg LV.str (by show _ = catN (fun k => pgB (p.pt k)) 7 ++ pgB (p.pt 7); rw [e]; simp)), rfl, LV.le.refl _, rfl, trivial⟩, ⟨⟨_, rfl, LO.le.refl _⟩, rfl, rfl, trivial⟩⟩⟩
    · refine ⟨fun a => ?_, fun a => ⟨fun b => ?_, fun b => ?_⟩⟩
      · have a := nbT a
        have e : pgB (p.pt 8) = [0, 0] := by unfold pgB; rw [a]; rfl
        refine ⟨by show (catN (fun k => pgB (p.pt k)) 8).length + 2 ≤ _; omega, ?_⟩
        exact ⟨8 + 1, ⟨(by omega : 8 + 1 ≤ 16), True.intro⟩, (by omega : 16 - (8 + 1) < 16 - 8), .le ⟨rfl, ⟨rfl, Nat.le_of_ble_eq_true rfl⟩, ⟨LV.le.int ej, rfl, LV.le.eq (congrArg LV.str (by show _ = catN (fun k => pgB (p.pt k)) 8 ++ pgB (p.pt 8); rw [e])), rfl, LV.le.refl _, rfl, trivial⟩, ⟨⟨_, rfl, LO.le.refl _⟩, rfl, rfl, trivial⟩⟩⟩
      · have a := nbF a
        have e : pgB (p.pt 8) = [2, b8 (p.pt 8).2.2] := by unfold pgB; rw [a, b]; rfl
        refine ⟨by show (catN (fun k => pgB (p.pt k)) 8).length + 1 ≤ _; omega, [b8 (p.pt 8).2.2], ⟨rfl, fun i (hi : i < 1) => ?_⟩, ?_⟩
        · obtain rfl : i = 0 := by omega
          exact congrArg (fun z => [LV.v (.int .u8 z)]) (w8b _)
        refine ⟨by show ((catN (fun k => pgB (p.pt k)) 8) ++ [2]).length + 1 ≤ _; rw [List.length_append]; show _ + 1 + 1 ≤ _; omega, ?_⟩
        exact ⟨8 + 1, ⟨(by omega : 8 + 1 ≤ 16), True.intro⟩, (by omega : 16 - (8 + 1) < 16 - 8), .le ⟨rfl, ⟨rfl, Nat.le_of_ble_eq_true rfl⟩, ⟨LV.le.int ej, rfl, LV.le.eq (congrArg LV.str (by show _ = catN (fun k => pgB (p.pt k)) 8 ++ pgB (p.pt 8); rw [e]; simp)), rfl, LV.le.refl _, rfl, trivial⟩, ⟨⟨_, rfl, LO.le.refl _⟩, rfl, rfl, trivial⟩⟩⟩
      · have a := nbF a
        have e : pgB (p.pt 8) = [1, b8 (p.pt 8).2.2] := by unfold pgB; rw [a, b]; rfl
        refine ⟨by show (catN (fun k => pgB (p.pt k)) 8).length + 1 ≤ _; omega, [b8 (p.pt 8).2.2], ⟨rfl, fun i (hi : i < 1) => ?_⟩, ?_⟩
        · obtain rfl : i = 0 := by omega
          exact congrArg (fun z => [LV.v (.int .u8 z)]) (w8b _)
        refine ⟨by show ((catN (fun k => pgB (p.pt k)) 8) ++ [1]).length + 1 ≤ _; rw [List.length_append]; show _ + 1 + 1 ≤ _; omega, ?_⟩
        exact ⟨8 + 1, ⟨(by omega : 8 + 1 ≤ 16), True.intro⟩, (by omega : 16 - (8 + 1) < 16 - 8), .le ⟨rfl, ⟨rfl, Nat.le_of_ble_eq_true rfl⟩, ⟨LV.le.int ej, rfl, LV.le.eq (congrArg LV.str (by show _ = catN (fun k => pgB (p.pt k)) 8 ++ pgB (p.pt 8); rw [e]; simp)), rfl, LV.le.refl _, rfl, trivial⟩, ⟨⟨_, rfl, LO.le.refl _⟩, rfl, rfl, trivial⟩⟩⟩
    · refine ⟨fun a => ?_, fun a => ⟨fun b => ?_, fun b => ?_⟩⟩
      · have a := nbT a
        have e : pgB (p.pt 9) = [0, 0] := by unfold pgB; rw [a]; rfl
        refine ⟨by show (catN (fun k => pgB (p.pt k)) 9).length + 2 ≤ _; omega, ?_⟩
        exact ⟨9 + 1, ⟨(by omega : 9 + 1 ≤ 16), True.intro⟩, (by omega : 16 - (9 + 1) < 16 - 9), .le ⟨rfl, ⟨rfl, Nat.le_of_ble_eq_true rfl⟩, ⟨LV.le.int ej, rfl, LV.le.eq (congrArg LV.str (by show _ = catN (fun k => pgB (p.pt k)) 9 ++ pgB (p.pt 9); rw [e])), rfl, LV.le.refl _, rfl, trivial⟩, ⟨⟨_, rfl, LO.le.refl _⟩, rfl, rfl, trivial⟩⟩⟩
      · have a := nbF a
        have e : pgB (p.pt 9) = [2, b8 (p.pt 9).2.2] := by unfold pgB; rw [a, b]; rfl
        refine ⟨by show (catN (fun k => pgB (p.pt k)) 9).length + 1 ≤ _; omega, [b8 (p.pt 9).2.2], ⟨rfl, fun i (hi : i < 1) => ?_⟩, ?_⟩
        · obtain rfl : i = 0 := by omega
          exact congrArg (fun z => [LV.v (.int .u8 z)]) (w8b _)
        refine ⟨by show ((catN (fun k => pgB (p.pt k)) 9) ++ [2]).length + 1 ≤ _; rw [List.length_append]; show _ + 1 + 1 ≤ _; omega, ?_⟩
        exact ⟨9 + 1, ⟨(by omega : 9 + 1 ≤ 16), True.intro⟩, (by omega : 16 - (9 + 1) < 16 - 9), .le ⟨rfl, ⟨rfl, Nat.le_of_ble_eq_true rfl⟩, ⟨LV.le.int ej, rfl, LV.le.eq (congrArg LV.str (by show _ = catN (fun k => pgB (p.pt k)) 9 ++ pgB (p.pt 9); rw [e]; simp)), rfl, LV.le.refl _, rfl, trivial⟩, ⟨⟨_, rfl, LO.le.refl _⟩, rfl, rfl, trivial⟩⟩⟩
      · have a := nbF a
        have e : pgB (p.pt 9) = [1, b8 (p.pt 9).2.2] := by unfold pgB; rw [a, b]; rfl
        refine ⟨by show (catN (fun k => pgB (p.pt k)) 9).length + 1 ≤ _; omega, [b8 (p.pt 9).2.2], ⟨rfl, fun i (hi : i < 1) => ?_⟩, ?_⟩
        · obtain rfl : i = 0 := by omega
          exact congrArg (fun z => [LV.v (.int .u8 z)]) (w8b _)
        refine ⟨by show ((catN (fun k => pgB (p.pt k)) 9) ++ [1]).length + 1 ≤ _; rw [List.length_append]; show _ + 1 + 1 ≤ _; omega, ?_⟩
        exact ⟨9 + 1, ⟨(by omega : 9 + 1 ≤ 16), True.intro⟩, (by omega : 16 - (9 + 1) < 16 - 9), .le ⟨rfl, ⟨rfl, Nat.le_of_ble_eq_true rfl⟩, ⟨LV.le.int ej, rfl, LV.le.eq (congrArg LV.str (by show _ = catN (fun k => pgB (p.pt k)) 9 ++ pgB (p.pt 9); rw [e]; simp)), rfl, LV.le.refl _, rfl, trivial⟩, ⟨⟨_, rfl, LO.le.refl _⟩, rfl, rfl, trivial⟩⟩⟩
    · refine ⟨fun a => ?_, fun a => ⟨fun b => ?_, fun b => ?_⟩⟩
      · have a := nbT a
        have e : pgB (p.pt 10) = [0, 0] := by unfold pgB; rw [a]; rfl
        refine ⟨by show (catN (fun k => pgB (p.pt k)) 10).length + 2 ≤ _; omega, ?_⟩
        exact ⟨10 + 1, ⟨(by omega : 10 + 1 ≤ 16), True.intro⟩, (by omega : 16 - (10 + 1) < 16 - 10), .le ⟨rfl, ⟨rfl, Nat.le_of_ble_eq_true rfl⟩, ⟨LV.le.int ej, rfl, LV.le.eq (congrArg LV.str (by show _ = catN (fun k => pgB (p.pt k)) 10 ++ pgB (p.pt 10); rw [e])), rfl, LV.le.refl _, rfl, trivial⟩, ⟨⟨_, rfl, LO.le.refl _⟩, rfl, rfl, trivial⟩⟩⟩
      · have a := nbF a
        have e : pgB (p.pt 10) = [2, b8 (p.pt 10).2.2] := by unfold pgB; rw [a, b]; rfl
        refine ⟨by show (catN (fun k => pgB (p.pt k)) 10).length + 1 ≤ _; omega, [b8 (p.pt 10).2.2], ⟨rfl, fun i (hi : i < 1) => ?_⟩, ?_⟩
        · obtain rfl : i = 0 := by omega
          exact congrArg (fun z => [LV.v (.int .u8 z)]) (w8b _)
        refine ⟨by show ((catN (fun k => pgB (p.pt k)) 10) ++ [2]).length + 1 ≤ _; rw [List.length_append]; show _ + 1 + 1 ≤ _; omega, ?_⟩
        exact ⟨10 + 1, ⟨(by omega : 10 + 1 ≤ 16), True.intro⟩, (by omega : 16 - (10 + 1) < 16 - 10), .le ⟨rfl, ⟨rfl, Nat.le_of_ble_eq_true rfl⟩, ⟨LV.le.int ej, rfl, LV.le.eq (congrArg LV.str (by show _ = catN (fun k => pgB (p.pt k)) 10 ++ pgB (p.pt 10); rw [e]; simp)), rfl, LV.le.refl _, rfl, trivial⟩, ⟨⟨_, rfl, LO.le.refl _⟩, rfl, rfl, trivial⟩⟩⟩
      · have a := nbF a
        have e : pgB (p.pt 10) = [1, b8 (p.pt 10).2.2] := by unfold pgB; rw [a, b]; rfl
        refine ⟨by show (catN (fun k => pgB (p.pt k)) 10).length + 1 ≤ _; omega, [b8 (p.pt 10).2.2], ⟨rfl, fun i (hi : i < 1) => ?_⟩, ?_⟩
        · obtain rfl : i = 0 := by omega
          exact congrArg (fun z => [LV.v (.int .u8 z)]) (w8b _)
        refine ⟨by show ((catN (fun k => pgB (p.pt k)) 10) ++ [1]).length + 1 ≤ _; rw [List.length_append]; show _ + 1 + 1 ≤ _; omega, ?_⟩
        exact ⟨10 + 1, ⟨(by omega : 10 + 1 ≤ 16), True.intro⟩, (by omega : 16 - (10 + 1) < 16 - 10), .le ⟨rfl, ⟨rfl, Nat.le_of_ble_eq_true rfl⟩, ⟨LV.le.int ej, rfl, LV.le.eq (congrArg LV.str (by show _ = catN (fun k => pgB (p.pt k)) 10 ++ pgB (p.pt 10); rw [e]; simp)), rfl, LV.le.refl _, rfl, trivial⟩, ⟨⟨_, rfl, LO.le.refl _⟩, rfl, rfl, trivial⟩⟩⟩
    · refine ⟨fun a => ?_, fun a => ⟨fun b => ?_, fun b => ?_⟩⟩
      · have a := nbT a
        have e : pgB (p.pt 11) = [0, 0] := by unfold pgB; rw [a]; rfl
        refine ⟨by show (catN (fun k => pgB (p.pt k)) 11).length + 2 ≤ _; omega, ?_⟩
        exact ⟨11 + 1, ⟨(by omega : 11 + 1 ≤ 16), True.intro⟩, (by omega : 16 - (11 + 1) < 16 - 11), .le ⟨rfl, ⟨rfl, Nat.le_of_ble_eq_true rfl⟩, ⟨LV.le.int ej, rfl, LV.le.eq (congrArg LV.str (by show _ = catN (fun k => pgB (p.pt k)) 11 ++ pgB (p.pt 11); rw [e])), rfl, LV.le.refl _, rfl, trivial⟩, ⟨⟨_, rfl, LO.le.refl _⟩, rfl, rfl, trivial⟩⟩⟩
      · have a := nbF a
        have e : pgB (p.pt 11) = [2, b8 (p.pt 11).2.2] := by unfold pgB; rw [a, b]; rfl
        refine ⟨by show (catN (fun k => pgB (p.pt k)) 11).length + 1 ≤ _; omega, [b8 (p.pt 11).2.2], ⟨rfl, fun i (hi : i < 1) => ?_⟩, ?_⟩
        · obtain rfl : i = 0 := by omega
          exact congrArg (fun z => [LV.v (.int .u8 z)]) (w8b _)
        refine ⟨by show ((catN (fun k => pgB (p.pt k)) 11) ++ [2]).length + 1 ≤ _; rw [List.length_append]; show _ + 1 + 1 ≤ _; omega, ?_⟩
        exact ⟨11 + 1, ⟨(by omega : 11 + 1 ≤ 16), True.intro⟩, (by omega : 16 - (11 + 1) < 16 - 11), .le ⟨rfl, ⟨rfl, Nat.le_of_ble_eq_true rfl⟩, ⟨LV.le.int ej, rfl, LV.le.eq (congrArg LV.str (by show _ = catN (fun k => pgB (p.pt k)) 11 ++ pgB (p.pt 11); rw [e]; simp)), rfl, LV.le.refl _, rfl, trivial⟩, ⟨⟨_, rfl, LO.le.refl _⟩, rfl, rfl, trivial⟩⟩⟩
      · have a := nbF a
        have e : pgB (p.pt 11) = [1, b8 (p.pt 11).2.2] := by unfold pgB; rw [a, b]; rfl
        refine ⟨by show (catN (fun k => pgB (p.pt k)) 11).length + 1 ≤ _; omega, [b8 (p.pt 11).2.2], ⟨rfl, fun i (hi : i < 1) => ?_⟩, ?_⟩
        · obtain rfl : i = 0 := by omega
          exact congrArg (fun z => [LV.v (.int .u8 z)]) (w8b _)
        refine ⟨by show ((catN (fun k => pgB (p.pt k)) 11) ++ [1]).length + 1 ≤ _; rw [List.length_append]; show _ + 1 + 1 ≤ _; omega, ?_⟩
        exact ⟨11 + 1, ⟨(by omega : 11 + 1 ≤ 16), True.intro⟩, (by omega : 16 - (11 + 1) < 16 - 11), .le ⟨rfl, ⟨rfl, Nat.le_of_ble_eq_true rfl⟩, ⟨LV.le.int ej, rfl, LV.le.eq (congrArg LV.str (by show _ = catN (fun k => pgB (p.pt k)) 11 ++ pgB (p.pt 11); rw [e]; simp)), rfl, LV.le.refl _, rfl, trivial⟩, ⟨⟨_, rfl, LO.le.refl _⟩, rfl, rfl, trivial⟩⟩⟩
    · refine ⟨fun a => ?_, fun a => ⟨fun b => ?_, fun b => ?_⟩⟩
      · have a := nbT a
        have e : pgB (p.pt 12) = [0, 0] := by unfold pgB; rw [a]; rfl
        refine ⟨by show (catN (fun k => pgB (p.pt k)) 12).length + 2 ≤ _; omega, ?_⟩
        exact ⟨12 + 1, ⟨(by omega : 12 + 1 ≤ 16), True.intro⟩, (by omega : 16 - (12 + 1) < 16 - 12), .le ⟨rfl, ⟨rfl, Nat.le_of_ble_eq_true rfl⟩, ⟨LV.le.int ej, rfl, LV.le.eq (congrArg LV.str (by show _ = catN (fun k => pgB (p.pt k)) 12 ++ pgB (p.pt 12); rw [e])), rfl, LV.le.refl _, rfl, trivial⟩, ⟨⟨_, rfl, LO.le.refl _⟩, rfl, rfl, trivial⟩⟩⟩
      · have a := nbF a
        have e : pgB (p.pt 12) = [2, b8 (p.pt 12).2.2] := by unfold pgB; rw [a, b]; rfl
        refine ⟨by show (catN (fun k => pgB (p.pt k)) 12).length + 1 ≤ _; omega, [b8 (p.pt 12).2.2], ⟨rfl, fun i (hi : i < 1) => ?_⟩, ?_⟩
        · obtain rfl : i = 0 := by omega
          exact congrArg (fun z => [LV.v (.int .u8 z)]) (w8b _)
        refine ⟨by show ((catN (fun k => pgB (p.pt k)) 12) ++ [2]).length + 1 ≤ _; rw [List.length_append]; show _ + 1 + 1 ≤ _; omega, ?_⟩
        exact ⟨12 + 1, ⟨(by omega : 12 + 1 ≤ 16), True.intro⟩, (by omega : 16 - (12 + 1) < 16 - 12), .le ⟨rfl, ⟨rfl, Nat.le_of_ble_eq_true rfl⟩, ⟨LV.le.int ej, rfl, LV.le.eq (congrArg LV.str (by show _ = catN (fun k => pgB (p.pt k)) 12 ++ pgB (p.pt 12); rw [e]; simp)), rfl, LV.le.refl _, rfl, trivial⟩, ⟨⟨_, rfl, LO.le.refl _⟩, rfl, rfl, trivial⟩⟩⟩
      · have a := nbF a
        have e : pgB (p.pt 12) = [1, b8 (p.pt 12).2.2] := by unfold pgB; rw [a, b]; rfl
        refine ⟨by show (catN (fun k => pgB (p.pt k)) 12).length + 1 ≤ _; omega, [b8 (p.pt 12).2.2], ⟨rfl, fun i (hi : i < 1) => ?_⟩, ?_⟩
        · obtain rfl : i = 0 := by omega
          exact congrArg (fun z => [LV.v (.int .u8 z)]) (w8b _)
        refine ⟨by show ((catN (fun k => pgB (p.pt k)) 12) ++ [1]).length + 1 ≤ _; rw [List.length_append]; show _ + 1 + 1 ≤ _; omega, ?_⟩
        exact ⟨12 + 1, ⟨(by omega : 12 + 1 ≤ 16), True.intro⟩, (by omega : 16 - (12 + 1) < 16 - 12), .le ⟨rfl, ⟨rfl, Nat.le_of_ble_eq_true rfl⟩, ⟨LV.le.int ej, rfl, LV.le.eq (congrArg LV.str (by show _ = catN (fun k => pgB (p.pt k)) 12 ++ pgB (p.pt 12); rw [e]; simp)), rfl, LV.le.refl _, rfl, trivial⟩, ⟨⟨_, rfl, LO.le.refl _⟩, rfl, rfl, trivial⟩⟩⟩
    · refine ⟨fun a => ?_, fun a => ⟨fun b => ?_, fun b => ?_⟩⟩
      · have a := nbT a
        have e : pgB (p.pt 13) = [0, 0] := by unfold pgB; rw [a]; rfl
        refine ⟨by show (catN (fun k => pgB (p.pt k)) 13).length + 2 ≤ _; omega, ?_⟩
        exact ⟨13 + 1, ⟨(by omega : 13 + 1 ≤ 16), True.intro⟩, (by omega : 16 - (13 + 1) < 16 - 13), .le ⟨rfl, ⟨rfl, Nat.le_of_ble_eq_true rfl⟩, ⟨LV.le.int ej, rfl, LV.le.eq (congrArg LV.str (by show _ = catN (fun k => pgB (p.pt k)) 13 ++ pgB (p.pt 13); rw [e])), rfl, LV.le.refl _, rfl, trivial⟩, ⟨⟨_, rfl, LO.le.refl _⟩, rfl, rfl, trivial⟩⟩⟩
      · have a := nbF a
        have e : pgB (p.pt 13) = [2, b8 (p.pt 13).2.2] := by unfold pgB; rw [a, b]; rfl
        refine ⟨by show (catN (fun k => pgB (p.pt k)) 13).length + 1 ≤ _; omega, [b8 (p.pt 13).2.2], ⟨rfl, fun i (hi : i < 1) => ?_⟩, ?_⟩
        · obtain rfl : i = 0 := by omega
          exact congrArg (fun z => [LV.v (.int .u8 z)]) (w8b _)
        refine ⟨by show ((catN (fun k => pgB (p.pt k)) 13) ++ [2]).length + 1 ≤ _; rw [List.length_append]; show _ + 1 + 1 ≤ _; omega, ?_⟩
        exact ⟨13 + 1, ⟨(by omega : 13 + 1 ≤ 16), True.intro⟩, (by omega : 16 - (13 + 1) < 16 - 13), .le ⟨rfl, ⟨rfl, Nat.le_of_ble_eq_true rfl⟩, ⟨LV.le.int ej, rfl, LV.le.eq (congrArg LV.str (by show _ = catN (fun k => pgB (p.pt k)) 13 ++ pgB (p.pt 13); rw [e]; simp)), rfl, LV.le.refl _, rfl, trivial⟩, ⟨⟨_, rfl, LO.le.refl _⟩, rfl, rfl, trivial⟩⟩⟩
      · have a := nbF a
        have e : pgB (p.pt 13) = [1, b8 (p.pt 13).2.2] := by unfold pgB; rw [a, b]; rfl
        refine ⟨by show (catN (fun k => pgB (p.pt k)) 13).length + 1 ≤ _; omega, [b8 (p.pt 13).2.2], ⟨rfl, fun i (hi : i < 1) => ?_⟩, ?_⟩
        · obtain rfl : i = 0 := by omega
          exact congrArg (fun z => [LV.v (.int .u8 z)]) (w8b _)
        refine ⟨by show ((catN (fun k => pgB (p.pt k)) 13) ++ [1]).length + 1 ≤ _; rw [List.length_append]; show _ + 1 + 1 ≤ _; omega, ?_⟩
        exact ⟨13 + 1, ⟨(by omega : 13 + 1 ≤ 16), True.intro⟩, (by omega : 16 - (13 + 1) < 16 - 13), .le ⟨rfl, ⟨rfl, Nat.le_of_ble_eq_true rfl⟩, ⟨LV.le.int ej, rfl, LV.le.eq (congrArg LV.str (by show _ = catN (fun k => pgB (p.pt k)) 13 ++ pgB (p.pt 13); rw [e]; simp)), rfl, LV.le.refl _, rfl, trivial⟩, ⟨⟨_, rfl, LO.le.refl _⟩, rfl, rfl, trivial⟩⟩⟩
    · refine ⟨fun a => ?_, fun a => ⟨fun b => ?_, fun b => ?_⟩⟩
      · have a := nbT a
        have e : pgB (p.pt 14) = [0, 0] := by unfold pgB; rw [a]; rfl
        refine ⟨by show (catN (fun k => pgB (p.pt k)) 14).length + 2 ≤ _; omega, ?_⟩
        exact ⟨14 + 1, ⟨(by omega : 14 + 1 ≤ 16), True.intro⟩, (by omega : 16 - (14 + 1) < 16 - 14), .le ⟨rfl, ⟨rfl, Nat.le_of_ble_eq_true rfl⟩, ⟨LV.le.int ej, rfl, LV.le.eq (congrArg LV.str (by show _ = catN (fun k => pgB (p.pt k)) 14 ++ pgB (p.pt 14); rw [e])), rfl, LV.le.refl _, rfl, trivial⟩, ⟨⟨_, rfl, LO.le.refl _⟩, rfl, rfl, trivial⟩⟩⟩
      · have a := nbF a
        have e : pgB (p.pt 14) = [2, b8 (p.pt 14).2.2] := by unfold pgB; rw [a, b]; rfl
        refine ⟨by show (catN (fun k => pgB (p.pt k)) 14).length + 1 ≤ _; omega, [b8 (p.pt 14).2.2], ⟨rfl, fun i (hi : i < 1) => ?_⟩, ?_⟩
        · obtain rfl : i = 0 := by omega
          exact congrArg (fun z => [LV.v (.int .u8 z)]) (w8b _)
        refine ⟨by show ((catN (fun k => pgB (p.pt k)) 14) ++ [2]).length + 1 ≤ _; rw [List.length_append]; show _ + 1 + 1 ≤ _; omega, ?_⟩
        exact ⟨14 + 1, ⟨(by omega : 14 + 1 ≤ 16), True.intro⟩, (by omega : 16 - (14 + 1) < 16 - 14), .le ⟨rfl, ⟨rfl, Nat.le_of_ble_eq_true rfl⟩, ⟨LV.le.int ej, rfl, LV.le.eq (congrArg LV.str (by show _ = catN (fun k => pgB (p.pt k)) 14 ++ pgB (p.pt 14); rw [e]; simp)), rfl, LV.le.refl _, rfl, trivial⟩, ⟨⟨_, rfl, LO.le.refl _⟩, rfl, rfl, trivial⟩⟩⟩
      · have a := nbF a
        have e : pgB (p.pt 14) = [1, b8 (p.pt 14).2.2] := by unfold pgB; rw [a, b]; rfl
        refine ⟨by show (catN (fun k => pgB (p.pt k)) 14).length + 1 ≤ _; omega, [b8 (p.pt 14).2.2], ⟨rfl, fun i (hi : i < 1) => ?_⟩, ?_⟩
        · obtain rfl : i = 0 := by omega
          exact congrArg (fun z => [LV.v (.int .u8 z)]) (w8b _)
        refine ⟨by show ((catN (fun k => pgB (p.pt k)) 14) ++ [1]).length + 1 ≤ _; rw [List.length_append]; show _ + 1 + 1 ≤ _; omega, ?_⟩
        exact ⟨14 + 1, ⟨(by omega : 14 + 1 ≤ 16), True.intro⟩, (by omega : 16 - (14 + 1) < 16 - 14), .le ⟨rfl, ⟨rfl, Nat.le_of_ble_eq_true rfl⟩, ⟨LV.le.int ej, rfl, LV.le.eq (congrArg LV.str (by show _ = catN (fun k => pgB (p.pt k)) 14 ++ pgB (p.pt 14); rw [e]; simp)), rfl, LV.le.refl _, rfl, trivial⟩, ⟨⟨_, rfl, LO.le.refl _⟩, rfl, rfl, trivial⟩⟩⟩
    · refine ⟨fun a => ?_, fun a => ⟨fun b => ?_, fun b => ?_⟩⟩
      · have a := nbT a
        have e : pgB (p.pt 15) = [0, 0] := by unfold pgB; rw [a]; rfl
        refine ⟨by show (catN (fun k => pgB (p.pt k)) 15).length + 2 ≤ _; omega, ?_⟩
        exact ⟨15 + 1, ⟨(by omega : 15 + 1 ≤ 16), True.intro⟩, (by omega : 16 - (15 + 1) < 16 - 15), .le ⟨rfl, ⟨rfl, Nat.le_of_ble_eq_true rfl⟩, ⟨LV.le.int ej, rfl, LV.le.eq (congrArg LV.str (by show _ = catN (fun k => pgB (p.pt k)) 15 ++ pgB (p.pt 15); rw [e])), rfl, LV.le.refl _, rfl, trivial⟩, ⟨⟨_, rfl, LO.le.refl _⟩, rfl, rfl, trivial⟩⟩⟩
      · have a := nbF a
        have e : pgB (p.pt 15) = [2, b8 (p.pt 15).2.2] := by unfold pgB; rw [a, b]; rfl
        refine ⟨by show (catN (fun k => pgB (p.pt k)) 15).length + 1 ≤ _; omega, [b8 (p.pt 15).2.2], ⟨rfl, fun i (hi : i < 1) => ?_⟩, ?_⟩
        · obtain rfl : i = 0 := by omega
          exact congrArg (fun z => [LV.v (.int .u8 z)]) (w8b _)
        refine ⟨by show ((catN (fun k => pgB (p.pt k)) 15) ++ [2]).length + 1 ≤ _; rw [List.length_append]; show _ + 1 + 1 ≤ _; omega, ?_⟩
        exact ⟨15 + 1, ⟨(by omega : 15 + 1 ≤ 16), True.intro⟩, (by omega : 16 - (15 + 1) < 16 - 15), .le ⟨rfl, ⟨rfl, Nat.le_of_ble_eq_true rfl⟩, ⟨LV.le.int ej, rfl, LV.le.eq (congrArg LV.str (by show _ = catN (fun k => pgB (p.pt k)) 15 ++ pgB (p.pt 15); rw [e]; simp)), rfl, LV.le.refl _, rfl, trivial⟩, ⟨⟨_, rfl, LO.le.refl _⟩, rfl, rfl, trivial⟩⟩⟩
      · have a := nbF a
        have e : pgB (p.pt 15) = [1, b8 (p.pt 15).2.2] := by unfold pgB; rw [a, b]; rfl
        refine ⟨by show (catN (fun k => pgB (p.pt k)) 15).length + 1 ≤ _; omega, [b8 (p.pt 15).2.2], ⟨rfl, fun i (hi : i < 1) => ?_⟩, ?_⟩
        · obtain rfl : i = 0 := by omega
          exact congrArg (fun z => [LV.v (.int .u8 z)]) (w8b _)
        refine ⟨by show ((catN (fun k => pgB (p.pt k)) 15) ++ [1]).length + 1 ≤ _; rw [List.length_append]; show _ + 1 + 1 ≤ _; omega, ?_⟩
        exact ⟨15 + 1, ⟨(by omega : 15 + 1 ≤ 16), True.intro⟩, (by omega : 16 - (15 + 1) < 16 - 15), .le ⟨rfl, ⟨rfl, Nat.le_of_ble_eq_true rfl⟩, ⟨LV.le.int ej, rfl, LV.le.eq (congrArg LV.str (by show _ = catN (fun k => pgB (p.pt k)) 15 ++ pgB (p.pt 15); rw [e]; simp)), rfl, LV.le.refl _, rfl, trivial⟩, ⟨⟨_, rfl, LO.le.refl _⟩, rfl, rfl, trivial⟩⟩⟩
  · obtain ⟨hj, hp⟩ := hj
    have h := dF h
    have h : ¬ (j : Int) < ((16 : Nat) : Int) := h
    have hn : j = 16 := by have : j ≤ 16 := hj; omega
    subst hn
    exact ⟨LV.le.refl _, rfl⟩
theorem rfds_ct (p : PV) : Ct Tryz.prog 149 [.agg p.fdc] (.str (fdsB p)) := by
  refine Ct.enter Tryz.tab2Ok ft149 ?_
  refine ⟨Nat, fun j => ⟨[(4, iv (j : Int)), (3, .str (catN (fun k => fdB (p.fd k)) j)), (1, .lp 0 0)], [(0, .box 75 p.fdc)], 1, 0⟩, fun j => j ≤ 8 ∧ True, fun j => 8 - j, 0, ⟨Nat.zero_le _, True.intro⟩, .le ⟨rfl, ⟨rfl, Nat.le_of_ble_eq_true rfl⟩, ⟨LV.le.refl _, rfl, LV.le.refl _, rfl, LV.le.refl _, rfl, trivial⟩, ⟨⟨_, rfl, LO.le.refl _⟩, rfl, rfl, trivial⟩⟩, fun j hj => ⟨fun h => ?_, fun h => ?_⟩⟩
  · obtain ⟨hj, hp⟩ := hj
    have h := dT h
    have h : (j : Int) < ((8 : Nat) : Int) := h
    have hj : j < 8 := by omega
    have ej := w1 hj (by omega)
    have hl := catN_len (fun k => fdB_len (p.fd k)) j
    clear h
    rcases (by omega : j = 0 ∨ j = 1 ∨ j = 2 ∨ j = 3 ∨ j = 4 ∨ j = 5 ∨ j = 6 ∨ j = 7) with rfl | rfl | rfl | rfl | rfl | rfl | rfl | rfl
    · refine DrawA.run Tryz.tab2Ok Tryz.mixed [0, 0, 2, 6, 14, 30, 62, 126, 255, 0, 512, 1536, 3584, 7680, 15872, 32767, 0, 65536, 196608, 458752, 983040, 2063872, 4194303, 8388607] [6] rfl ?_
      refine ⟨_, ⟨LV.le.refl _, rfl⟩, ?_⟩
      refine ⟨_, ⟨LV.le.refl _, rfl⟩, ?_⟩
      refine ⟨_, ⟨⟨by omega, by omega⟩, LV.le.refl _, rfl⟩, ?_⟩
      refine ⟨_, ⟨LV.le.refl _, rfl⟩, ?_⟩
      refine ⟨_, ⟨LV.le.refl _, rfl⟩, ?_⟩
      refine ⟨.v (.int .u8 ((b8 (p.fd 0).1).toNat : Int)), ⟨LV.le.int (w8b _), rfl⟩, ?_⟩
      refine ⟨_, _, ⟨LV.le.refl _, rfl⟩, ?_⟩
      refine ⟨.str [b8 (p.fd 0).1], ⟨[b8 (p.fd 0).1], ⟨rfl, fun i (hi : i < 1) => by (obtain rfl : i = 0 := by omega); rfl⟩, LV.le.refl _, rfl⟩, ?_⟩
      refine ⟨_, ⟨by show (catN (fun k => fdB (p.fd k)) 0).length + 1 ≤ _; omega, LV.le.refl _, rfl⟩, ?_⟩
      refine ⟨_, ⟨LV.le.refl _, rfl⟩, ?_⟩
      refine ⟨_, ⟨⟨by omega, by omega⟩, LV.le.refl _, rfl⟩, ?_⟩
      refine ⟨_, ⟨LV.le.refl _, rfl⟩, ?_⟩
      refine ⟨_, ⟨LV.le.refl _, rfl⟩, ?_⟩
      refine ⟨lv ((n64 (p.fd 0).2.1 : Nat) : Int), ⟨LV.le.int (wn64 _), rfl⟩, ?_⟩
      refine ⟨_, Ct.callC (rput_ct (n64 (p.fd 0).2.1) 8 (n64_lt _) (by omega)) rfl (leL.refl _) ⟨LV.le.refl _, rfl⟩, ?_⟩
      refine ⟨_, ⟨by show (catN (fun k => fdB (p.fd k)) 0 ++ [b8 (p.fd 0).1]).length + (putF (n64 (p.fd 0).2.1) 8).length ≤ _; rw [List.length_append, putF_len]; show _ + 1 + 8 ≤ _; omega, LV.le.refl _, rfl⟩, ?_⟩
      refine ⟨_, ⟨LV.le.refl _, rfl⟩, ?_⟩
      refine ⟨_, ⟨⟨by omega, by omega⟩, LV.le.refl _, rfl⟩, ?_⟩
      refine ⟨_, ⟨LV.le.refl _, rfl⟩, ?_⟩
      refine ⟨_, ⟨LV.le.refl _, rfl⟩, ?_⟩
      refine ⟨lv ((n64 (p.fd 0).2.2 : Nat) : Int), ⟨LV.le.int (wn64 _), rfl⟩, ?_⟩
      refine ⟨_, Ct.callC (rput_ct (n64 (p.fd 0).2.2) 8 (n64_lt _) (by omega)) rfl (leL.refl _) ⟨LV.le.refl _, rfl⟩, ?_⟩
      refine ⟨_, ⟨by show ((catN (fun k => fdB (p.fd k)) 0 ++ [b8 (p.fd 0).1]) ++ putF (n64 (p.fd 0).2.1) 8).length + (putF (n64 (p.fd 0).2.2) 8).length ≤ _; rw [List.length_append, List.length_append, putF_len, putF_len]; show _ + 1 + 8 + 8 ≤ _; omega, LV.le.refl _, rfl⟩, ?_⟩
      refine ⟨_, ⟨LV.le.refl _, rfl⟩, ?_⟩
      refine ⟨⟨⟨True.intro, ⟨LV.le.refl _, rfl⟩, True.intro⟩, ⟨⟨LV.le.refl _, rfl⟩, True.intro, True.intro⟩, ⟨⟨⟨by omega, by omega⟩, LV.le.refl _, rfl⟩, True.intro, True.intro⟩, ⟨⟨LV.le.refl _, rfl⟩, True.intro, True.intro⟩, ⟨⟨LV.le.refl _, rfl⟩, True.intro, True.intro⟩, ⟨⟨LV.le.int (wn64 _), rfl⟩, True.intro, True.intro⟩, ⟨Ct.callC (rput_ct (n64 (p.fd 0).2.1) 8 (n64_lt _) (by omega)) rfl (leL.refl _) ⟨LV.le.refl _, rfl⟩, True.intro, True.intro⟩, ⟨⟨LV.le.refl _, rfl⟩, True.intro, True.intro⟩, ⟨⟨⟨by omega, by omega⟩, LV.le.refl _, rfl⟩, True.intro, True.intro⟩, ⟨⟨LV.le.refl _, rfl⟩, True.intro, True.intro⟩, ⟨⟨LV.le.refl _, rfl⟩, True.intro, True.intro⟩, ⟨⟨LV.le.int (wn64 _), rfl⟩, True.intro, True.intro⟩, ⟨Ct.callC (rput_ct (n64 (p.fd 0).2.2) 8 (n64_lt _) (by omega)) rfl (leL.refl _) ⟨LV.le.refl _, rfl⟩, True.intro, True.intro⟩, True.intro⟩, ?_⟩
      exact ⟨0 + 1, ⟨(by omega : 0 + 1 ≤ 8), True.intro⟩, (by omega : 8 - (0 + 1) < 8 - 0), .le ⟨rfl, ⟨rfl, Nat.le_of_ble_eq_true rfl⟩, ⟨LV.le.int ej, rfl, LV.le.eq (congrArg LV.str (by show _ = catN (fun k => fdB (p.fd k)) 0 ++ fdB (p.fd 0); simp [fdB])), rfl, LV.le.refl _, rfl, trivial⟩, ⟨⟨_, rfl, LO.le.refl _⟩, rfl, rfl, trivial⟩⟩⟩
    · refine DrawA.run Tryz.tab2Ok Tryz.mixed [0, 0, 2, 6, 14, 30, 62, 126, 255, 0, 512, 1536, 3584, 7680, 15872, 32767, 0, 65536, 196608, 458752, 983040, 2063872, 4194303, 8388607] [6] rfl ?_
      refine ⟨_, ⟨LV.le.refl _, rfl⟩, ?_⟩
      refine ⟨_, ⟨LV.le.refl _, rfl⟩, ?_⟩
      refine ⟨_, ⟨⟨by omega, by omega⟩, LV.le.refl _, rfl⟩, ?_⟩
      refine ⟨_, ⟨LV.le.refl _, rfl⟩, ?_⟩
      refine ⟨_, ⟨LV.le.refl _, rfl⟩, ?_⟩
      refine ⟨.v (.int .u8 ((b8 (p.fd 1).1).toNat : Int)), ⟨LV.le.int (w8b _), rfl⟩, ?_⟩
      refine ⟨_, _, ⟨LV.le.refl _, rfl⟩, ?_⟩
      refine ⟨.str [b8 (p.fd 1).1], ⟨[b8 (p.fd 1).1], ⟨rfl, fun i (hi : i < 1) => by (obtain rfl : i = 0 := by omega); rfl⟩, LV.le.refl _, rfl⟩, ?_⟩
      refine ⟨_, ⟨by show (catN (fun k => fdB (p.fd k)) 1).length + 1 ≤ _; omega, LV.le.refl _, rfl⟩, ?_⟩
      refine ⟨_, ⟨LV.le.refl _, rfl⟩, ?_⟩
      refine ⟨_, ⟨⟨by omega, by omega⟩, LV.le.refl _, rfl⟩, ?_⟩
      refine ⟨_, ⟨LV.le.refl _, rfl⟩, ?_⟩
      refine ⟨_, ⟨LV.le.refl _, rfl⟩, ?_⟩
      refine ⟨lv ((n64 (p.fd 1).2.1 : Nat) : Int), ⟨LV.le.int (wn64 _), rfl⟩, ?_⟩
      refine ⟨_, Ct.callC (rput_ct (n64 (p.fd 1).2.1) 8 (n64_lt _) (by omega)) rfl (leL.refl _) ⟨LV.le.refl _, rfl⟩, ?_⟩
      refine ⟨_, ⟨by show (catN (fun k => fdB (p.fd k)) 1 ++ [b8 (p.fd 1).1]).length + (putF (n64 (p.fd 1).2.1) 8).length ≤ _; rw [List.length_append, putF_len]; show _ + 1 + 8 ≤ _; omega, LV.le.refl _, rfl⟩, ?_⟩
      refine ⟨_, ⟨LV.le.refl _, rfl⟩, ?_⟩
      refine ⟨_, ⟨⟨by omega, by omega⟩, LV.le.refl _, rfl⟩, ?_⟩
      refine ⟨_, ⟨LV.le.refl _, rfl⟩, ?_⟩
      refine ⟨_, ⟨LV.le.refl _, rfl⟩, ?_⟩
      refine ⟨lv ((n64 (p.fd 1).2.2 : Nat) : Int), ⟨LV.le.int (wn64 _), rfl⟩, ?_⟩
      refine ⟨_, Ct.callC (rput_ct (n64 (p.fd 1).2.2) 8 (n64_lt _) (by omega)) rfl (leL.refl _) ⟨LV.le.refl _, rfl⟩, ?_⟩
      refine ⟨_, ⟨by show ((catN (fun k => fdB (p.fd k)) 1 ++ [b8 (p.fd 1).1]) ++ putF (n64 (p.fd 1).2.1) 8).length + (putF (n64 (p.fd 1).2.2) 8).length ≤ _; rw [List.length_append, List.length_append, putF_len, putF_len]; show _ + 1 + 8 + 8 ≤ _; omega, LV.le.refl _, rfl⟩, ?_⟩
      refine ⟨_, ⟨LV.le.refl _, rfl⟩, ?_⟩
      refine ⟨⟨⟨True.intro, ⟨LV.le.refl _, rfl⟩, True.intro⟩, ⟨⟨LV.le.refl _, rfl⟩, True.intro, True.intro⟩, ⟨⟨⟨by omega, by omega⟩, LV.le.refl _, rfl⟩, True.intro, True.intro⟩, ⟨⟨LV.le.refl _, rfl⟩, True.intro, True.intro⟩, ⟨⟨LV.le.refl _, rfl⟩, True.intro, True.intro⟩, ⟨⟨LV.le.int (wn64 _), rfl⟩, True.intro, True.intro⟩, ⟨Ct.callC (rput_ct (n64 (p.fd 1).2.1) 8 (n64_lt _) (by omega)) rfl (leL.refl _) ⟨LV.le.refl _, rfl⟩, True.intro, True.intro⟩, ⟨⟨LV.le.refl _, rfl⟩, True.intro, True.intro⟩, ⟨⟨⟨by omega, by omega⟩, LV.le.refl _, rfl⟩, True.intro, True.intro⟩, ⟨⟨LV.le.refl _, rfl⟩, True.intro, True.intro⟩, ⟨⟨LV.le.refl _, rfl⟩, True.intro, True.intro⟩, ⟨⟨LV.le.int (wn64 _), rfl⟩, True.intro, True.intro⟩, ⟨Ct.callC (rput_ct (n64 (p.fd 1).2.2) 8 (n64_lt _) (by omega)) rfl (leL.refl _) ⟨LV.le.refl _, rfl⟩, True.intro, True.intro⟩, True.intro⟩, ?_⟩
      exact ⟨1 + 1, ⟨(by omega : 1 + 1 ≤ 8), True.intro⟩, (by omega : 8 - (1 + 1) < 8 - 1), .le ⟨rfl, ⟨rfl, Nat.le_of_ble_eq_true rfl⟩, ⟨LV.le.int ej, rfl, LV.le.eq (congrArg LV.str (by show _ = catN (fun k => fdB (p.fd k)) 1 ++ fdB (p.fd 1); simp [fdB])), rfl, LV.le.refl _, rfl, trivial⟩, ⟨⟨_, rfl, LO.le.refl _⟩, rfl, rfl, trivial⟩⟩⟩
    · refine DrawA.run Tryz.tab2Ok Tryz.mixed [0, 0, 2, 6, 14, 30, 62, 126, 255, 0, 512, 1536, 3584, 7680, 15872, 32767, 0, 65536, 196608, 458752, 983040, 2063872, 4194303, 8388607] [6] rfl ?_
      refine ⟨_, ⟨LV.le.refl _, rfl⟩, ?_⟩
      refine ⟨_, ⟨LV.le.refl _, rfl⟩, ?_⟩
      refine ⟨_, ⟨⟨by omega, by omega⟩, LV.le.refl _, rfl⟩, ?_⟩
      refine ⟨_, ⟨LV.le.refl _, rfl⟩, ?_⟩
      refine ⟨_, ⟨LV.le.refl _, rfl⟩, ?_⟩
      refine ⟨.v (.int .u8 ((b8 (p.fd 2).1).toNat : Int)), ⟨LV.le.int (w8b _), rfl⟩, ?_⟩
      refine ⟨_, _, ⟨LV.le.refl _, rfl⟩, ?_⟩
      refine ⟨.str [b8 (p.fd 2).1], ⟨[b8 (p.fd 2).1], ⟨rfl, fun i (hi : i < 1) => by (obtain rfl : i = 0 := by omega); rfl⟩, LV.le.refl _, rfl⟩, ?_⟩
      refine ⟨_, ⟨by show (catN (fun k => fdB (p.fd k)) 2).length + 1 ≤ _; omega, LV.le.refl _, rfl⟩, ?_⟩
      refine ⟨_, ⟨LV.le.refl _, rfl⟩, ?_⟩
      refine ⟨_, ⟨⟨by omega, by omega⟩, LV.le.refl _, rfl⟩, ?_⟩
      refine ⟨_, ⟨LV.le.refl _, rfl⟩, ?_⟩
      refine ⟨_, ⟨LV.le.refl _, rfl⟩, ?_⟩
      refine ⟨lv ((n64 (p.fd 2).2.1 : Nat) : Int), ⟨LV.le.int (wn64 _), rfl⟩, ?_⟩
      refine ⟨_, Ct.callC (rput_ct (n64 (p.fd 2).2.1) 8 (n64_lt _) (by omega)) rfl (leL.refl _) ⟨LV.le.refl _, rfl⟩, ?_⟩
      refine ⟨_, ⟨by show (catN (fun k => fdB (p.fd k)) 2 ++ [b8 (p.fd 2).1]).length + (putF (n64 (p.fd 2).2.1) 8).length ≤ _; rw [List.length_append, putF_len]; show _ + 1 + 8 ≤ _; omega, LV.le.refl _, rfl⟩, ?_⟩
      refine ⟨_, ⟨LV.le.refl _, rfl⟩, ?_⟩
      refine ⟨_, ⟨⟨by omega, by omega⟩, LV.le.refl _, rfl⟩, ?_⟩
      refine ⟨_, ⟨LV.le.refl _, rfl⟩, ?_⟩
      refine ⟨_, ⟨LV.le.refl _, rfl⟩, ?_⟩
      refine ⟨lv ((n64 (p.fd 2).2.2 : Nat) : Int), ⟨LV.le.int (wn64 _), rfl⟩, ?_⟩
      refine ⟨_, Ct.callC (rput_ct (n64 (p.fd 2).2.2) 8 (n64_lt _) (by omega)) rfl (leL.refl _) ⟨LV.le.refl _, rfl⟩, ?_⟩
      refine ⟨_, ⟨by show ((catN (fun k => fdB (p.fd k)) 2 ++ [b8 (p.fd 2).1]) ++ putF (n64 (p.fd 2).2.1) 8).length + (putF (n64 (p.fd 2).2.2) 8).length ≤ _; rw [List.length_append, List.length_append, putF_len, putF_len]; show _ + 1 + 8 + 8 ≤ _; omega, LV.le.refl _, rfl⟩, ?_⟩
      refine ⟨_, ⟨LV.le.refl _, rfl⟩, ?_⟩
      refine ⟨⟨⟨True.intro, ⟨LV.le.refl _, rfl⟩, True.intro⟩, ⟨⟨LV.le.refl _, rfl⟩, True.intro, True.intro⟩, ⟨⟨⟨by omega, by omega⟩, LV.le.refl _, rfl⟩, True.intro, True.intro⟩, ⟨⟨LV.le.refl _, rfl⟩, True.intro, True.intro⟩, ⟨⟨LV.le.refl _, rfl⟩, True.intro, True.intro⟩, ⟨⟨LV.le.int (wn64 _), rfl⟩, True.intro, True.intro⟩, ⟨Ct.callC (rput_ct (n64 (p.fd 2).2.1) 8 (n64_lt _) (by omega)) rfl (leL.refl _) ⟨LV.le.refl _, rfl⟩, True.intro, True.intro⟩, ⟨⟨LV.le.refl _, rfl⟩, True.intro, True.intro⟩, ⟨⟨⟨by omega, by omega⟩, LV.le.refl _, rfl⟩, True.intro, True.intro⟩, ⟨⟨LV.le.refl _, rfl⟩, True.intro, True.intro⟩, ⟨⟨LV.le.refl _, rfl⟩, True.intro, True.intro⟩, ⟨⟨LV.le.int (wn64 _), rfl⟩, True.intro, True.intro⟩, ⟨Ct.callC (rput_ct (n64 (p.fd 2).2.2) 8 (n64_lt _) (by omega)) rfl (leL.refl _) ⟨LV.le.refl _, rfl⟩, True.intro, True.intro⟩, True.intro⟩, ?_⟩
      exact ⟨2 + 1, ⟨(by omega : 2 + 1 ≤ 8), True.intro⟩, (by omega : 8 - (2 + 1) < 8 - 2), .le ⟨rfl, ⟨rfl, Nat.le_of_ble_eq_true rfl⟩, ⟨LV.le.int ej, rfl, LV.le.eq (congrArg LV.str (by show _ = catN (fun k => fdB (p.fd k)) 2 ++ fdB (p.fd 2); simp [fdB])), rfl, LV.le.refl _, rfl, trivial⟩, ⟨⟨_, rfl, LO.le.refl _⟩, rfl, rfl, trivial⟩⟩⟩
    · refine DrawA.run Tryz.tab2Ok Tryz.mixed [0, 0, 2, 6, 14, 30, 62, 126, 255, 0, 512, 1536, 3584, 7680, 15872, 32767, 0, 65536, 196608, 458752, 983040, 2063872, 4194303, 8388607] [6] rfl ?_
      refine ⟨_, ⟨LV.le.refl _, rfl⟩, ?_⟩
      refine ⟨_, ⟨LV.le.refl _, rfl⟩, ?_⟩
      refine ⟨_, ⟨⟨by omega, by omega⟩, LV.le.refl _, rfl⟩, ?_⟩
      refine ⟨_, ⟨LV.le.refl _, rfl⟩, ?_⟩
      refine ⟨_, ⟨LV.le.refl _, rfl⟩, ?_⟩
      refine ⟨.v (.int .u8 ((b8 (p.fd 3).1).toNat : Int)), ⟨LV.le.int (w8b _), rfl⟩, ?_⟩
      refine ⟨_, _, ⟨LV.le.refl _, rfl⟩, ?_⟩
      refine ⟨.str [b8 (p.fd 3).1], ⟨[b8 (p.fd 3).1], ⟨rfl, fun i (hi : i < 1) => by (obtain rfl : i = 0 := by omega); rfl⟩, LV.le.refl _, rfl⟩, ?_⟩
      refine ⟨_, ⟨by show (catN (fun k => fdB (p.fd k)) 3).length + 1 ≤ _; omega, LV.le.refl _, rfl⟩, ?_⟩
      refine ⟨_, ⟨LV.le.refl _, rfl⟩, ?_⟩
      refine ⟨_, ⟨⟨by omega, by omega⟩, LV.le.refl _, rfl⟩, ?_⟩
      refine ⟨_, ⟨LV.le.refl _, rfl⟩, ?_⟩
      refine ⟨_, ⟨LV.le.refl _, rfl⟩, ?_⟩
      refine ⟨lv ((n64 (p.fd 3).2.1 : Nat) : Int), ⟨LV.le.int (wn64 _), rfl⟩, ?_⟩
      refine ⟨_, Ct.callC (rput_ct (n64 (p.fd 3).2.1) 8 (n64_lt _) (by omega)) rfl (leL.refl _) ⟨LV.le.refl _, rfl⟩, ?_⟩
      refine ⟨_, ⟨by show (catN (fun k => fdB (p.fd k)) 3 ++ [b8 (p.fd 3).1]).length + (putF (n64 (p.fd 3).2.1) 8).length ≤ _; rw [List.length_append, putF_len]; show _ + 1 + 8 ≤ _; omega, LV.le.refl _, rfl⟩, ?_⟩
      refine ⟨_, ⟨LV.le.refl _, rfl⟩, ?_⟩
      refine ⟨_, ⟨⟨by omega, by omega⟩, LV.le.refl _, rfl⟩, ?_⟩
      refine ⟨_, ⟨LV.le.refl _, rfl⟩, ?_⟩
      refine ⟨_, ⟨LV.le.refl _, rfl⟩, ?_⟩
      refine ⟨lv ((n64 (p.fd 3).2.2 : Nat) : Int), ⟨LV.le.int (wn64 _), rfl⟩, ?_⟩
      refine ⟨_, Ct.callC (rput_ct (n64 (p.fd 3).2.2) 8 (n64_lt _) (by omega)) rfl (leL.refl _) ⟨LV.le.refl _, rfl⟩, ?_⟩
      refine ⟨_, ⟨by show ((catN (fun k => fdB (p.fd k)) 3 ++ [b8 (p.fd 3).1]) ++ putF (n64 (p.fd 3).2.1) 8).length + (putF (n64 (p.fd 3).2.2) 8).length ≤ _; rw [List.length_append, List.length_append, putF_len, putF_len]; show _ + 1 + 8 + 8 ≤ _; omega, LV.le.refl _, rfl⟩, ?_⟩
      refine ⟨_, ⟨LV.le.refl _, rfl⟩, ?_⟩
      refine ⟨⟨⟨True.intro, ⟨LV.le.refl _, rfl⟩, True.intro⟩, ⟨⟨LV.le.refl _, rfl⟩, True.intro, True.intro⟩, ⟨⟨⟨by omega, by omega⟩, LV.le.refl _, rfl⟩, True.intro, True.intro⟩, ⟨⟨LV.le.refl _, rfl⟩, True.intro, True.intro⟩, ⟨⟨LV.le.refl _, rfl⟩, True.intro, True.intro⟩, ⟨⟨LV.le.int (wn64 _), rfl⟩, True.intro, True.intro⟩, ⟨Ct.callC (rput_ct (n64 (p.fd 3).2.1) 8 (n64_lt _) (by omega)) rfl (leL.refl _) ⟨LV.le.refl _, rfl⟩, True.intro, True.intro⟩, ⟨⟨LV.le.refl _, rfl⟩, True.intro, True.intro⟩, ⟨⟨⟨by omega, by omega⟩, LV.le.refl _, rfl⟩, True.intro, True.intro⟩, ⟨⟨LV.le.refl _, rfl⟩, True.intro, True.intro⟩, ⟨⟨LV.le.refl _, rfl⟩, True.intro, True.intro⟩, ⟨⟨LV.le.int (wn64 _), rfl⟩, True.intro, True.intro⟩, ⟨Ct.callC (rput_ct (n64 (p.fd 3).2.2) 8 (n64_lt _) (by omega)) rfl (leL.refl _) ⟨LV.le.refl _, rfl⟩, True.intro, True.intro⟩, True.intro⟩, ?_⟩
      exact ⟨3 + 1, ⟨(by omega : 3 + 1 ≤ 8), True.intro⟩, (by omega : 8 - (3 + 1) < 8 - 3), .le ⟨rfl, ⟨rfl, Nat.le_of_ble_eq_true rfl⟩, ⟨LV.le.int ej, rfl, LV.le.eq (congrArg LV.str (by show _ = catN (fun k => fdB (p.fd k)) 3 ++ fdB (p.fd 3); simp [fdB])), rfl, LV.le.refl _, rfl, trivial⟩, ⟨⟨_, rfl, LO.le.refl _⟩, rfl, rfl, trivial⟩⟩⟩
    · refine DrawA.run Tryz.tab2Ok Tryz.mixed [0, 0, 2, 6, 14, 30, 62, 126, 255, 0, 512, 1536, 3584, 7680, 15872, 32767, 0, 65536, 196608, 458752, 983040, 2063872, 4194303, 8388607] [6] rfl ?_
      refine ⟨_, ⟨LV.le.refl _, rfl⟩, ?_⟩
      refine ⟨_, ⟨LV.le.refl _, rfl⟩, ?_⟩
      refine ⟨_, ⟨⟨by omega, by omega⟩, LV.le.refl _, rfl⟩, ?_⟩
      refine ⟨_, ⟨LV.le.refl _, rfl⟩, ?_⟩
      refine ⟨_, ⟨LV.le.refl _, rfl⟩, ?_⟩
      refine ⟨.v (.int .u8 ((b8 (p.fd 4).1).toNat : Int)), ⟨LV.le.int (w8b _), rfl⟩, ?_⟩
      refine ⟨_, _, ⟨LV.le.refl _, rfl⟩, ?_⟩
      refine ⟨.str [b8 (p.fd 4).1], ⟨[b8 (p.fd 4).1], ⟨rfl, fun i (hi : i < 1) => by (obtain rfl : i = 0 := by omega); rfl⟩, LV.le.refl _, rfl⟩, ?_⟩
      refine ⟨_, ⟨by show (catN (fun k => fdB (p.fd k)) 4).length + 1 ≤ _; omega, LV.le.refl _, rfl⟩, ?_⟩
      refine ⟨_, ⟨LV.le.refl _, rfl⟩, ?_⟩
      refine ⟨_, ⟨⟨by omega, by omega⟩, LV.le.refl _, rfl⟩, ?_⟩
      refine ⟨_, ⟨LV.le.refl _, rfl⟩, ?_⟩
      refine ⟨_, ⟨LV.le.refl _, rfl⟩, ?_⟩
      refine ⟨lv ((n64 (p.fd 4).2.1 : Nat) : Int), ⟨LV.le.int (wn64 _), rfl⟩, ?_⟩
      refine ⟨_, Ct.callC (rput_ct (n64 (p.fd 4).2.1) 8 (n64_lt _) (by omega)) rfl (leL.refl _) ⟨LV.le.refl _, rfl⟩, ?_⟩
      refine ⟨_, ⟨by show (catN (fun k => fdB (p.fd k)) 4 ++ [b8 (p.fd 4).1]).length + (putF (n64 (p.fd 4).2.1) 8).length ≤ _; rw [List.length_append, putF_len]; show _ + 1 + 8 ≤ _; omega, LV.le.refl _, rfl⟩, ?_⟩
      refine ⟨_, ⟨LV.le.refl _, rfl⟩, ?_⟩
      refine ⟨_, ⟨⟨by omega, by omega⟩, LV.le.refl _, rfl⟩, ?_⟩
      refine ⟨_, ⟨LV.le.refl _, rfl⟩, ?_⟩
      refine ⟨_, ⟨LV.le.refl _, rfl⟩, ?_⟩
      refine ⟨lv ((n64 (p.fd 4).2.2 : Nat) : Int), ⟨LV.le.int (wn64 _), rfl⟩, ?_⟩
      refine ⟨_, Ct.callC (rput_ct (n64 (p.fd 4).2.2) 8 (n64_lt _) (by omega)) rfl (leL.refl _) ⟨LV.le.refl _, rfl⟩, ?_⟩
      refine ⟨_, ⟨by show ((catN (fun k => fdB (p.fd k)) 4 ++ [b8 (p.fd 4).1]) ++ putF (n64 (p.fd 4).2.1) 8).length + (putF (n64 (p.fd 4).2.2) 8).length ≤ _; rw [List.length_append, List.length_append, putF_len, putF_len]; show _ + 1 + 8 + 8 ≤ _; omega, LV.le.refl _, rfl⟩, ?_⟩
      refine ⟨_, ⟨LV.le.refl _, rfl⟩, ?_⟩
      refine ⟨⟨⟨True.intro, ⟨LV.le.refl _, rfl⟩, True.intro⟩, ⟨⟨LV.le.refl _, rfl⟩, True.intro, True.intro⟩, ⟨⟨⟨by omega, by omega⟩, LV.le.refl _, rfl⟩, True.intro, True.intro⟩, ⟨⟨LV.le.refl _, rfl⟩, True.intro, True.intro⟩, ⟨⟨LV.le.refl _, rfl⟩, True.intro, True.intro⟩, ⟨⟨LV.le.int (wn64 _), rfl⟩, True.intro, True.intro⟩, ⟨Ct.callC (rput_ct (n64 (p.fd 4).2.1) 8 (n64_lt _) (by omega)) rfl (leL.refl _) ⟨LV.le.refl _, rfl⟩, True.intro, True.intro⟩, ⟨⟨LV.le.refl _, rfl⟩, True.intro, True.intro⟩, ⟨⟨⟨by omega, by omega⟩, LV.le.refl _, rfl⟩, True.intro, True.intro⟩, ⟨⟨LV.le.refl _, rfl⟩, True.intro, True.intro⟩, ⟨⟨LV.le.refl _, rfl⟩, True.intro, True.intro⟩, ⟨⟨LV.le.int (wn64 _), rfl⟩, True.intro, True.intro⟩, ⟨Ct.callC (rput_ct (n64 (p.fd 4).2.2) 8 (n64_lt _) (by omega)) rfl (leL.refl _) ⟨LV.le.refl _, rfl⟩, True.intro, True.intro⟩, True.intro⟩, ?_⟩
      exact ⟨4 + 1, ⟨(by omega : 4 + 1 ≤ 8), True.intro⟩, (by omega : 8 - (4 + 1) < 8 - 4), .le ⟨rfl, ⟨rfl, Nat.le_of_ble_eq_true rfl⟩, ⟨LV.le.int ej, rfl, LV.le.eq (congrArg LV.str (by show _ = catN (fun k => fdB (p.fd k)) 4 ++ fdB (p.fd 4); simp [fdB])), rfl, LV.le.refl _, rfl, trivial⟩, ⟨⟨_, rfl, LO.le.refl _⟩, rfl, rfl, trivial⟩⟩⟩
    · refine DrawA.run Tryz.tab2Ok Tryz.mixed [0, 0, 2, 6, 14, 30, 62, 126, 255, 0, 512, 1536, 3584, 7680, 15872, 32767, 0, 65536, 196608, 458752, 983040, 2063872, 4194303, 8388607] [6] rfl ?_
      refine ⟨_, ⟨LV.le.refl _, rfl⟩, ?_⟩
      refine ⟨_, ⟨LV.le.refl _, rfl⟩, ?_⟩
      refine ⟨_, ⟨⟨by omega, by omega⟩, LV.le.refl _, rfl⟩, ?_⟩
      refine ⟨_, ⟨LV.le.refl _, rfl⟩, ?_⟩
      refine ⟨_, ⟨LV.le.refl _, rfl⟩, ?_⟩
      refine ⟨.v (.int .u8 ((b8 (p.fd 5).1).toNat : Int)), ⟨LV.le.int (w8b _), rfl⟩, ?_⟩
      refine ⟨_, _, ⟨LV.le.refl _, rfl⟩, ?_⟩
      refine ⟨.str [b8 (p.fd 5).1], ⟨[b8 (p.fd 5).1], ⟨rfl, fun i (hi : i < 1) => by (obtain rfl : i = 0 := by omega); rfl⟩, LV.le.refl _, rfl⟩, ?_⟩
      refine ⟨_, ⟨by show (catN (fun k => fdB (p.fd k)) 5).length + 1 ≤ _; omega, LV.le.refl _, rfl⟩, ?_⟩
      refine ⟨_, ⟨LV.le.refl _, rfl⟩, ?_⟩
      refine ⟨_, ⟨⟨by omega, by omega⟩, LV.le.refl _, rfl⟩, ?_⟩
      refine ⟨_, ⟨LV.le.refl _, rfl⟩, ?_⟩
      refine ⟨_, ⟨LV.le.refl _, rfl⟩, ?_⟩
      refine ⟨lv ((n64 (p.fd 5).2.1 : Nat) : Int), ⟨LV.le.int (wn64 _), rfl⟩, ?_⟩
      refine ⟨_, Ct.callC (rput_ct (n64 (p.fd 5).2.1) 8 (n64_lt _) (by omega)) rfl (leL.refl _) ⟨LV.le.refl _, rfl⟩, ?_⟩
      refine ⟨_, ⟨by show (catN (fun k => fdB (p.fd k)) 5 ++ [b8 (p.fd 5).1]).length + (putF (n64 (p.fd 5).2.1) 8).length ≤ _; rw [List.length_append, putF_len]; show _ + 1 + 8 ≤ _; omega, LV.le.refl _, rfl⟩, ?_⟩
      refine ⟨_, ⟨LV.le.refl _, rfl⟩, ?_⟩
      refine ⟨_, ⟨⟨by omega, by omega⟩, LV.le.refl _, rfl⟩, ?_⟩
      refine ⟨_, ⟨LV.le.refl _, rfl⟩, ?_⟩
      refine ⟨_, ⟨LV.le.refl _, rfl⟩, ?_⟩
      refine ⟨lv ((n64 (p.fd 5).2.2 : Nat) : Int), ⟨LV.le.int (wn64 _), rfl⟩, ?_⟩
      refine ⟨_, Ct.callC (rput_ct (n64 (p.fd 5).2.2) 8 (n64_lt _) (by omega)) rfl (leL.refl _) ⟨LV.le.refl _, rfl⟩, ?_⟩
      refine ⟨_, ⟨by show ((catN (fun k => fdB (p.fd k)) 5 ++ [b8 (p.fd 5).1]) ++ putF (n64 (p.fd 5).2.1) 8).length + (putF (n64 (p.fd 5).2.2) 8).length ≤ _; rw [List.length_append, List.length_append, putF_len, putF_len]; show _ + 1 + 8 + 8 ≤ _; omega, LV.le.refl _, rfl⟩, ?_⟩
      refine ⟨_, ⟨LV.le.refl _, rfl⟩, ?_⟩
      refine ⟨⟨⟨True.intro, ⟨LV.le.refl _, rfl⟩, True.intro⟩, ⟨⟨LV.le.refl _, rfl⟩, True.intro, True.intro⟩, ⟨⟨⟨by omega, by omega⟩, LV.le.refl _, rfl⟩, True.intro, True.intro⟩, ⟨⟨LV.le.refl _, rfl⟩, True.intro, True.intro⟩, ⟨⟨LV.le.refl _, rfl⟩, True.intro, True.intro⟩, ⟨⟨LV.le.int (wn64 _), rfl⟩, True.intro, True.intro⟩, ⟨Ct.callC (rput_ct (n64 (p.fd 5).2.1) 8 (n64_lt _) (by omega)) rfl (leL.refl _) ⟨LV.le.refl _, rfl⟩, True.intro, True.intro⟩, ⟨⟨LV.le.refl _, rfl⟩, True.intro, True.intro⟩, ⟨⟨⟨by omega, by omega⟩, LV.le.refl _, rfl⟩, True.intro, True.intro⟩, ⟨⟨LV.le.refl _, rfl⟩, True.intro, True.intro⟩, ⟨⟨LV.le.refl _, rfl⟩, True.intro, True.intro⟩, ⟨⟨LV.le.int (wn64 _), rfl⟩, True.intro, True.intro⟩, ⟨Ct.callC (rput_ct (n64 (p.fd 5).2.2) 8 (n64_lt _) (by omega)) rfl (leL.refl _) ⟨LV.le.refl _, rfl⟩, True.intro, True.intro⟩, True.intro⟩, ?_⟩
      exact ⟨5 + 1, ⟨(by omega : 5 + 1 ≤ 8), True.intro⟩, (by omega : 8 - (5 + 1) < 8 - 5), .le ⟨rfl, ⟨rfl, Nat.le_of_ble_eq_true rfl⟩, ⟨LV.le.int ej, rfl, LV.le.eq (congrArg LV.str (by show _ = catN (fun k => fdB (p.fd k)) 5 ++ fdB (p.fd 5); simp [fdB])), rfl, LV.le.refl _, rfl, trivial⟩, ⟨⟨_, rfl, LO.le.refl _⟩, rfl, rfl, trivial⟩⟩⟩
    · refine DrawA.run Tryz.tab2Ok Tryz.mixed [0, 0, 2, 6, 14, 30, 62, 126, 255, 0, 512, 1536, 3584, 7680, 15872, 32767, 0, 65536, 196608, 458752, 983040, 2063872, 4194303, 8388607] [6] rfl ?_
      refine ⟨_, ⟨LV.le.refl _, rfl⟩, ?_⟩
      refine ⟨_, ⟨LV.le.refl _, rfl⟩, ?_⟩
      refine ⟨_, ⟨⟨by omega, by omega⟩, LV.le.refl _, rfl⟩, ?_⟩
      refine ⟨_, ⟨LV.le.refl _, rfl⟩, ?_⟩
      refine ⟨_, ⟨LV.le.refl _, rfl⟩, ?_⟩
      refine ⟨.v (.int .u8 ((b8 (p.fd 6).1).toNat : Int)), ⟨LV.le.int (w8b _), rfl⟩, ?_⟩
      refine ⟨_, _, ⟨LV.le.refl _, rfl⟩, ?_⟩
      refine ⟨.str [b8 (p.fd 6).1], ⟨[b8 (p.fd 6).1], ⟨rfl, fun i (hi : i < 1) => by (obtain rfl : i = 0 := by omega); rfl⟩, LV.le.refl _, rfl⟩, ?_⟩
      refine ⟨_, ⟨by show (catN (fun k => fdB (p.fd k)) 6).length + 1 ≤ _; omega, LV.le.refl _, rfl⟩, ?_⟩
      refine ⟨_, ⟨LV.le.refl _, rfl⟩, ?_⟩
      refine ⟨_, ⟨⟨by omega, by omega⟩, LV.le.refl _, rfl⟩, ?_⟩
      refine ⟨_, ⟨LV.le.refl _, rfl⟩, ?_⟩
      refine ⟨_, ⟨LV.le.refl _, rfl⟩, ?_⟩
      refine ⟨lv ((n64 (p.fd 6).2.1 : Nat) : Int), ⟨LV.le.int (wn64 _), rfl⟩, ?_⟩
      refine ⟨_, Ct.callC (rput_ct (n64 (p.fd 6).2.1) 8 (n64_lt _) (by omega)) rfl (leL.refl _) ⟨LV.le.refl _, rfl⟩, ?_⟩
      refine ⟨_, ⟨by show (catN (fun k => fdB (p.fd k)) 6 ++ [b8 (p.fd 6).1]).length + (putF (n64 (p.fd 6).2.1) 8).length ≤ _; rw [List.length_append, putF_len]; show _ + 1 + 8 ≤ _; omega, LV.le.refl _, rfl⟩, ?_⟩
      refine ⟨_, ⟨LV.le.refl _, rfl⟩, ?_⟩
      refine ⟨_, ⟨⟨by omega, by omega⟩, LV.le.refl _, rfl⟩, ?_⟩
      refine ⟨_, ⟨LV.le.refl _, rfl⟩, ?_⟩
      refine ⟨_, ⟨LV.le.refl _, rfl⟩, ?_⟩
      refine ⟨lv ((n64 (p.fd 6).2.2 : Nat) : Int), ⟨LV.le.int (wn64 _), rfl⟩, ?_⟩
      refine ⟨_, Ct.callC (rput_ct (n64 (p.fd 6).2.2) 8 (n64_lt _) (by omega)) rfl (leL.refl _) ⟨LV.le.refl _, rfl⟩, ?_⟩
      refine ⟨_, ⟨by show ((catN (fun k => fdB (p.fd k)) 6 ++ [b8 (p.fd 6).1]) ++ putF (n64 (p.fd 6).2.1) 8).length + (putF (n64 (p.fd 6).2.2) 8).length ≤ _; rw [List.length_append, List.length_append, putF_len, putF_len]; show _ + 1 + 8 + 8 ≤ _; omega, LV.le.refl _, rfl⟩, ?_⟩
      refine ⟨_, ⟨LV.le.refl _, rfl⟩, ?_⟩
      refine ⟨⟨⟨True.intro, ⟨LV.le.refl _, rfl⟩, True.intro⟩, ⟨⟨LV.le.refl _, rfl⟩, True.intro, True.intro⟩, ⟨⟨⟨by omega, by omega⟩, LV.le.refl _, rfl⟩, True.intro, True.intro⟩, ⟨⟨LV.le.refl _, rfl⟩, True.intro, True.intro⟩, ⟨⟨LV.le.refl _, rfl⟩, True.intro, True.intro⟩, ⟨⟨LV.le.int (wn64 _), rfl⟩, True.intro, True.intro⟩, ⟨Ct.callC (rput_ct (n64 (p.fd 6).2.1) 8 (n64_lt _) (by omega)) rfl (leL.refl _) ⟨LV.le.refl _, rfl⟩, True.intro, True.intro⟩, ⟨⟨LV.le.refl _, rfl⟩, True.intro, True.intro⟩, ⟨⟨⟨by omega, by omega⟩, LV.le.refl _, rfl⟩, True.intro, True.intro⟩, ⟨⟨LV.le.refl _, rfl⟩, True.intro, True.intro⟩, ⟨⟨LV.le.refl _, rfl⟩, True.intro, True.intro⟩, ⟨⟨LV.le.int (wn64 _), rfl⟩, True.intro, True.intro⟩, ⟨Ct.callC (rput_ct (n64 (p.fd 6).2.2) 8 (n64_lt _) (by omega)) rfl (leL.refl _) ⟨LV.le.refl _, rfl⟩, True.intro, True.intro⟩, True.intro⟩, ?_⟩
      exact ⟨6 + 1, ⟨(by omega : 6 + 1 ≤ 8), True.intro⟩, (by omega : 8 - (6 + 1) < 8 - 6), .le ⟨rfl, ⟨rfl, Nat.le_of_ble_eq_true rfl⟩, ⟨LV.le.int ej, rfl, LV.le.eq (congrArg LV.str (by show _ = catN (fun k => fdB (p.fd k)) 6 ++ fdB (p.fd 6); simp [fdB])), rfl, LV.le.refl _, rfl, trivial⟩, ⟨⟨_, rfl, LO.le.refl _⟩, rfl, rfl, trivial⟩⟩⟩
    · refine DrawA.run Tryz.tab2Ok Tryz.mixed [0, 0, 2, 6, 14, 30, 62, 126, 255, 0, 512, 1536, 3584, 7680, 15872, 32767, 0, 65536, 196608, 458752, 983040, 2063872, 4194303, 8388607] [6] rfl ?_
      refine ⟨_, ⟨LV.le.refl _, rfl⟩, ?_⟩
      refine ⟨_, ⟨LV.le.refl _, rfl⟩, ?_⟩
      refine ⟨_, ⟨⟨by omega, by omega⟩, LV.le.refl _, rfl⟩, ?_⟩
      refine ⟨_, ⟨LV.le.refl _, rfl⟩, ?_⟩
      refine ⟨_, ⟨LV.le.refl _, rfl⟩, ?_⟩
      refine ⟨.v (.int .u8 ((b8 (p.fd 7).1).toNat : Int)), ⟨LV.le.int (w8b _), rfl⟩, ?_⟩
      refine ⟨_, _, ⟨LV.le.refl _, rfl⟩, ?_⟩
      refine ⟨.str [b8 (p.fd 7).1], ⟨[b8 (p.fd 7).1], ⟨rfl, fun i (hi : i < 1) => by (obtain rfl : i = 0 := by omega); rfl⟩, LV.le.refl _, rfl⟩, ?_⟩
      refine ⟨_, ⟨by show (catN (fun k => fdB (p.fd k)) 7).length + 1 ≤ _; omega, LV.le.refl _, rfl⟩, ?_⟩
      refine ⟨_, ⟨LV.le.refl _, rfl⟩, ?_⟩
      refine ⟨_, ⟨⟨by omega, by omega⟩, LV.le.refl _, rfl⟩, ?_⟩
      refine ⟨_, ⟨LV.le.refl _, rfl⟩, ?_⟩
      refine ⟨_, ⟨LV.le.refl _, rfl⟩, ?_⟩
      refine ⟨lv ((n64 (p.fd 7).2.1 : Nat) : Int), ⟨LV.le.int (wn64 _), rfl⟩, ?_⟩
      refine ⟨_, Ct.callC (rput_ct (n64 (p.fd 7).2.1) 8 (n64_lt _) (by omega)) rfl (leL.refl _) ⟨LV.le.refl _, rfl⟩, ?_⟩
      refine ⟨_, ⟨by show (catN (fun k => fdB (p.fd k)) 7 ++ [b8 (p.fd 7).1]).length + (putF (n64 (p.fd 7).2.1) 8).length ≤ _; rw [List.length_append, putF_len]; show _ + 1 + 8 ≤ _; omega, LV.le.refl _, rfl⟩, ?_⟩
      refine ⟨_, ⟨LV.le.refl _, rfl⟩, ?_⟩
      refine ⟨_, ⟨⟨by omega, by omega⟩, LV.le.refl _, rfl⟩, ?_⟩
      refine ⟨_, ⟨LV.le.refl _, rfl⟩, ?_⟩
      refine ⟨_, ⟨LV.le.refl _, rfl⟩, ?_⟩
      refine ⟨lv ((n64 (p.fd 7).2.2 : Nat) : Int), ⟨LV.le.int (wn64 _), rfl⟩, ?_⟩
      refine ⟨_, Ct.callC (rput_ct (n64 (p.fd 7).2.2) 8 (n64_lt _) (by omega)) rfl (leL.refl _) ⟨LV.le.refl _, rfl⟩, ?_⟩
      refine ⟨_, ⟨by show ((catN (fun k => fdB (p.fd k)) 7 ++ [b8 (p.fd 7).1]) ++ putF (n64 (p.fd 7).2.1) 8).length + (putF (n64 (p.fd 7).2.2) 8).length ≤ _; rw [List.length_append, List.length_append, putF_len, putF_len]; show _ + 1 + 8 + 8 ≤ _; omega, LV.le.refl _, rfl⟩, ?_⟩
      refine ⟨_, ⟨LV.le.refl _, rfl⟩, ?_⟩
      refine ⟨⟨⟨True.intro, ⟨LV.le.refl _, rfl⟩, True.intro⟩, ⟨⟨LV.le.refl _, rfl⟩, True.intro, True.intro⟩, ⟨⟨⟨by omega, by omega⟩, LV.le.refl _, rfl⟩, True.intro, True.intro⟩, ⟨⟨LV.le.refl _, rfl⟩, True.intro, True.intro⟩, ⟨⟨LV.le.refl _, rfl⟩, True.intro, True.intro⟩, ⟨⟨LV.le.int (wn64 _), rfl⟩, True.intro, True.intro⟩, ⟨Ct.callC (rput_ct (n64 (p.fd 7).2.1) 8 (n64_lt _) (by omega)) rfl (leL.refl _) ⟨LV.le.refl _, rfl⟩, True.intro, True.intro⟩, ⟨⟨LV.le.refl _, rfl⟩, True.intro, True.intro⟩, ⟨⟨⟨by omega, by omega⟩, LV.le.refl _, rfl⟩, True.intro, True.intro⟩, ⟨⟨LV.le.refl _, rfl⟩, True.intro, True.intro⟩, ⟨⟨LV.le.refl _, rfl⟩, True.intro, True.intro⟩, ⟨⟨LV.le.int (wn64 _), rfl⟩, True.intro, True.intro⟩, ⟨Ct.callC (rput_ct (n64 (p.fd 7).2.2) 8 (n64_lt _) (by omega)) rfl (leL.refl _) ⟨LV.le.refl _, rfl⟩, True.intro, True.intro⟩, True.intro⟩, ?_⟩
      exact ⟨7 + 1, ⟨(by omega : 7 + 1 ≤ 8), True.intro⟩, (by omega : 8 - (7 + 1) < 8 - 7), .le ⟨rfl, ⟨rfl, Nat.le_of_ble_eq_true rfl⟩, ⟨LV.le.int ej, rfl, LV.le.eq (congrArg LV.str (by show _ = catN (fun k => fdB (p.fd k)) 7 ++ fdB (p.fd 7); simp [fdB])), rfl, LV.le.refl _, rfl, trivial⟩, ⟨⟨_, rfl, LO.le.refl _⟩, rfl, rfl, trivial⟩⟩⟩
  · obtain ⟨hj, hp⟩ := hj
    have h := dF h
    have h : ¬ (j : Int) < ((8 : Nat) : Int) := h
    have hn : j = 8 := by have : j ≤ 8 := hj; omega
    subst hn
    exact ⟨LV.le.refl _, rfl⟩
end Go.Proofs.Aw
