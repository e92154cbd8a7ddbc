/- A PART OF THE PROOF: an abstract run of the loaded code over value trees, and the functions walked by it. No condition of its own. -/
import Derived.Test.YtanmknmlphkeaaaDoorD9
namespace Go.Proofs.Aw
open Go Go.Proofs
set_option maxHeartbeats 4000000
set_option maxRecDepth 100000
def wab : TL := fun i => match i with
  | 0 => [97]
  | _ => [98]
def wax : TL := fun i => match i with
  | 0 => [97]
  | _ => [120]
def wc : TL := fun _ => [99]
abbrev kA : KL := pK (wK noneK wab wax 2 2) wax 2 9
abbrev kB : KL := pK (wK noneK wc wc 1 1) wc 1 (pN (wK noneK wab wax 2 2) 2 9 (2 : Nat))
theorem LV.le.bsV {b c : Bool} (h : b = c) : LV.le (.bs b) (.v (.bool c)) := fun m N y hr => by subst h; exact hr
theorem alive_cnt : cnt (catK 2 kA kB) (2 + 1) = 0 := by decide
theorem alive_cnt0 : 0 < cnt (catK 2 noneK noneK) (2 + 1) := by decide
theorem alive_ct : Ct Tryd.prog 11 [] (.v (.bool true)) := by
  refine Ct.enter Tryd.tabOk ft11 ?_
  refine CallA.frz [0, 1, 4] ?_
  refine Ct.callC (begin_bad 7 2 1 wab wc (by omega) (by omega)) rfl ?_ ?_
  · exact ⟨_, _, rfl, LV.le.agg ⟨_, _, rfl, LV.le.refl _, _, _, rfl, LV.le.refl _, _, _, rfl, LV.le.any _, _, _, rfl, LV.le.any _, _, _, rfl, (LV.le.slL rfl fun i hi => by rcases (by omega : i = 0 ∨ i = 1) with rfl | rfl <;> exact leL.of rfl), _, _, rfl, LV.le.any _, _, _, rfl, LV.le.any _, _, _, rfl, LV.le.any _, _, _, rfl, LV.le.any _, _, _, rfl, LV.le.any _, _, _, rfl, LV.le.any _, _, _, rfl, LV.le.any _, _, _, rfl, LV.le.any _, _, _, rfl, (LV.le.slL rfl fun i hi => by obtain rfl : i = 0 := (by omega); exact leL.of rfl), _, _, rfl, LV.le.any _, _, _, rfl, LV.le.any _, _, _, rfl, LV.le.any _, rfl⟩, rfl⟩
  refine Ct.callC (image_busy 7 2 1 noneK noneK [] (by omega) (by omega) alive_cnt0) rfl (leL.refl _) ?_
  refine DrawA.run Tryd.tabOk Tryd.mixed [0, 0, 0, 7, 0, 31, 0, 127] [6, 7] rfl ?_
  refine ⟨_, ⟨LV.le.refl _, rfl⟩, ?_⟩
  refine ⟨_, ⟨LV.le.refl _, rfl⟩, ?_⟩
  refine ⟨_, ⟨LV.le.refl _, rfl⟩, ?_⟩
  refine ⟨_, Ct.callC (went_ct 7 2 1 2 2 1 1 noneK noneK [] wab wax wc wc (by omega) (by omega) (by omega) (by omega) (by omega) (by omega)) rfl ⟨_, _, rfl, LV.le.refl _, _, _, rfl, LV.le.agg ⟨_, _, rfl, LV.le.any _, _, _, rfl, LV.le.any _, _, _, rfl, LV.le.any _, _, _, rfl, LV.le.any _, _, _, rfl, (LV.le.slL rfl fun i hi => by rcases (by omega : i = 0 ∨ i = 1) with rfl | rfl <;> exact leL.of rfl), _, _, rfl, LV.le.any _, _, _, rfl, LV.le.any _, _, _, rfl, LV.le.any _, _, _, rfl, LV.le.any _, _, _, rfl, LV.le.any _, _, _, rfl, LV.le.any _, _, _, rfl, LV.le.any _, _, _, rfl, LV.le.any _, _, _, rfl, (LV.le.slL rfl fun i hi => by obtain rfl : i = 0 := (by omega); exact leL.of rfl), _, _, rfl, LV.le.any _, _, _, rfl, LV.le.any _, _, _, rfl, LV.le.any _, rfl⟩, _, _, rfl, LV.le.agg ⟨_, _, rfl, LV.le.any _, _, _, rfl, LV.le.any _, _, _, rfl, LV.le.any _, _, _, rfl, LV.le.any _, _, _, rfl, (LV.le.slL rfl fun i hi => by rcases (by omega : i = 0 ∨ i = 1) with rfl | rfl <;> exact leL.of rfl), _, _, rfl, LV.le.any _, _, _, rfl, LV.le.any _, _, _, rfl, LV.le.any _, _, _, rfl, LV.le.any _, _, _, rfl, LV.le.any _, _, _, rfl, LV.le.any _, _, _, rfl, LV.le.any _, _, _, rfl, LV.le.any _, _, _, rfl, (LV.le.slL rfl fun i hi => by obtain rfl : i = 0 := (by omega); exact leL.of rfl), _, _, rfl, LV.le.any _, _, _, rfl, LV.le.any _, _, _, rfl, LV.le.any _, rfl⟩, rfl⟩ ⟨LV.le.refl _, rfl⟩, ?_⟩
  refine ⟨_, ⟨LV.le.refl _, rfl⟩, ?_⟩
  refine ⟨_, Ct.callC (pump_ct 7 9 2 1 2 1 (wK noneK wab wax 2 2) (wK noneK wc wc 1 1) [] wax wc (by omega) (by omega) (by omega) (by omega) (by omega)) rfl ⟨_, _, rfl, LV.le.refl _, _, _, rfl, LV.le.agg ⟨_, _, rfl, LV.le.any _, _, _, rfl, LV.le.any _, _, _, rfl, LV.le.any _, _, _, rfl, LV.le.any _, _, _, rfl, (LV.le.slL rfl fun i hi => by rcases (by omega : i = 0 ∨ i = 1) with rfl | rfl <;> exact leL.of rfl), _, _, rfl, LV.le.any _, _, _, rfl, LV.le.any _, _, _, rfl, LV.le.any _, _, _, rfl, LV.le.any _, _, _, rfl, LV.le.any _, _, _, rfl, LV.le.any _, _, _, rfl, LV.le.any _, _, _, rfl, LV.le.any _, _, _, rfl, (LV.le.slL rfl fun i hi => by obtain rfl : i = 0 := (by omega); exact leL.of rfl), _, _, rfl, LV.le.any _, _, _, rfl, LV.le.any _, _, _, rfl, LV.le.any _, rfl⟩, _, _, rfl, LV.le.refl _, rfl⟩ ⟨LV.le.refl _, rfl⟩, ?_⟩
  refine ⟨_, _, ⟨LV.le.refl _, rfl⟩, ?_⟩
  refine ⟨_, _, ⟨LV.le.refl _, rfl⟩, ?_⟩
  refine ⟨?_, ?_⟩
  · refine ⟨⟨True.intro, ⟨LV.le.refl _, rfl⟩, True.intro⟩, ?_⟩
    refine ⟨⟨True.intro, ⟨LV.le.refl _, rfl⟩, True.intro⟩, ?_⟩
    refine ⟨⟨True.intro, ⟨LV.le.refl _, rfl⟩, True.intro⟩, ?_⟩
    refine ⟨⟨True.intro, Ct.callC (went_ct 7 2 1 2 2 1 1 noneK noneK [] wab wax wc wc (by omega) (by omega) (by omega) (by omega) (by omega) (by omega)) rfl ⟨_, _, rfl, LV.le.refl _, _, _, rfl, LV.le.agg ⟨_, _, rfl, LV.le.any _, _, _, rfl, LV.le.any _, _, _, rfl, LV.le.any _, _, _, rfl, LV.le.any _, _, _, rfl, (LV.le.slL rfl fun i hi => by rcases (by omega : i = 0 ∨ i = 1) with rfl | rfl <;> exact leL.of rfl), _, _, rfl, LV.le.any _, _, _, rfl, LV.le.any _, _, _, rfl, LV.le.any _, _, _, rfl, LV.le.any _, _, _, rfl, LV.le.any _, _, _, rfl, LV.le.any _, _, _, rfl, LV.le.any _, _, _, rfl, LV.le.any _, _, _, rfl, (LV.le.slL rfl fun i hi => by obtain rfl : i = 0 := (by omega); exact leL.of rfl), _, _, rfl, LV.le.any _, _, _, rfl, LV.le.any _, _, _, rfl, LV.le.any _, rfl⟩, _, _, rfl, LV.le.agg ⟨_, _, rfl, LV.le.any _, _, _, rfl, LV.le.any _, _, _, rfl, LV.le.any _, _, _, rfl, LV.le.any _, _, _, rfl, (LV.le.slL rfl fun i hi => by rcases (by omega : i = 0 ∨ i = 1) with rfl | rfl <;> exact leL.of rfl), _, _, rfl, LV.le.any _, _, _, rfl, LV.le.any _, _, _, rfl, LV.le.any _, _, _, rfl, LV.le.any _, _, _, rfl, LV.le.any _, _, _, rfl, LV.le.any _, _, _, rfl, LV.le.any _, _, _, rfl, LV.le.any _, _, _, rfl, (LV.le.slL rfl fun i hi => by obtain rfl : i = 0 := (by omega); exact leL.of rfl), _, _, rfl, LV.le.any _, _, _, rfl, LV.le.any _, _, _, rfl, LV.le.any _, rfl⟩, rfl⟩ ⟨LV.le.refl _, rfl⟩, True.intro⟩, ?_⟩
    refine ⟨⟨True.intro, ⟨LV.le.refl _, rfl⟩, True.intro⟩, ?_⟩
    refine ⟨⟨True.intro, Ct.callC (pump_ct 7 9 2 1 2 1 (wK noneK wab wax 2 2) (wK noneK wc wc 1 1) [] wax wc (by omega) (by omega) (by omega) (by omega) (by omega)) rfl ⟨_, _, rfl, LV.le.refl _, _, _, rfl, LV.le.agg ⟨_, _, rfl, LV.le.any _, _, _, rfl, LV.le.any _, _, _, rfl, LV.le.any _, _, _, rfl, LV.le.any _, _, _, rfl, (LV.le.slL rfl fun i hi => by rcases (by omega : i = 0 ∨ i = 1) with rfl | rfl <;> exact leL.of rfl), _, _, rfl, LV.le.any _, _, _, rfl, LV.le.any _, _, _, rfl, LV.le.any _, _, _, rfl, LV.le.any _, _, _, rfl, LV.le.any _, _, _, rfl, LV.le.any _, _, _, rfl, LV.le.any _, _, _, rfl, LV.le.any _, _, _, rfl, (LV.le.slL rfl fun i hi => by obtain rfl : i = 0 := (by omega); exact leL.of rfl), _, _, rfl, LV.le.any _, _, _, rfl, LV.le.any _, _, _, rfl, LV.le.any _, rfl⟩, _, _, rfl, LV.le.refl _, rfl⟩ ⟨LV.le.refl _, rfl⟩, True.intro⟩, ?_⟩
    exact True.intro
  refine CallA.le ⟨[(3, .lp 5 0), (5, .v (.int .i64 12))], [(5, .box 35 [.v (.int .u64 7), .sl 2 2 (kv noneK), .sl 2 1 (kv noneK), .str []])], 8, 0⟩
    ⟨rfl, ⟨rfl, Nat.le_refl _⟩, ⟨LV.le.refl _, rfl, LV.le.refl _, rfl, trivial⟩, ⟨⟨_, rfl, LO.le.refl _⟩, rfl, rfl, trivial⟩⟩ (leL.refl [shot 7 2 1 kA kB []]) rfl ?_
  refine Ct.callC (image_all 7 2 1 kA kB [] (by omega) (by omega) alive_cnt) rfl (leL.refl _) ?_
  refine ⟨fun _ => ?_, fun h => absurd h (by decide)⟩
  refine Ct.callC (left_ct 7 2 1 noneK noneK [] (by omega) (by omega)) rfl (leL.refl _) ?_
  refine ⟨fun _ => ?_, fun h => absurd h (by decide)⟩
  refine ⟨fun _ => ?_, fun h => absurd h (by decide)⟩
  refine ⟨fun _ => ?_, fun h => absurd h (by decide)⟩
  refine ⟨fun _ => ?_, fun h => absurd h (by decide)⟩
  refine ⟨⟨by decide, by decide⟩, ?_⟩
  refine ⟨fun _ => ?_, fun h => absurd h (by decide)⟩
  refine ⟨⟨by decide, by decide⟩, ?_⟩
  refine ⟨fun _ => ?_, fun h => absurd h (by decide)⟩
  refine ⟨fun _ => ?_, fun h => absurd h (by decide)⟩
  refine ⟨⟨by decide, by decide⟩, ?_⟩
  exact ⟨LV.le.bsV (by decide), rfl⟩
end Go.Proofs.Aw
