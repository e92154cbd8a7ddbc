/- A PART OF THE PROOF: an abstract run of the loaded code over value trees, and the functions walked by it. No condition of its own. -/
import Derived.Test.YtanmknmlphkeaaaGreatDoorZ0
import Derived.Lib.AppendZerosOnto
import Derived.Lib.SliceRun
import Derived.Lib.Walk
import Derived.Shelf.RegionOpenPlain
namespace Go.Proofs
open Go Go.RowKit Go.Lib
set_option maxHeartbeats 4000000
set_option maxRecDepth 100000
theorem Tryz.mixed : Tryz.prog.follows .mixedOrders = true := rfl
/-- behind a Grow of the nil slice -/
def GrowPost (w : World) (e : Ending) (w' : World) : Prop := ∃ G cur, e = .returned (.slice (some ⟨w.heap.size, 0, none⟩) 0 G) ∧ w' = w.drew.alloc (.cells cur 101) ∧ G ≤ maxLen ∧ cur.size = G * 2 ∧ ∀ u ∈ cur.toList, u.oneCell' = true

theorem grow_grow (n : Nat) (w : World) (h0 : 0 < n) (h63 : n ≤ 100000) :
    Calls Tryz.prog 103 #[.slice none 0 0, .int .i64 n] w (GrowPost w) := by
  have mixed := Tryz.mixed
  have u41 := Tryz.underlying41
  have u3 := Tryz.underlying3
  have u9 := Tryz.underlying9
  have h1 : ¬ ((n : Int) < 0) := by omega
  have h2 : wrap64 ((0 : Int) - (0 : Int)) = 0 := by unfold wrap64; omega
  have h3 : wrap64 ((n : Int) - 0) = (n : Int) := by unfold wrap64; omega
  have h4 : (n : Int) > 0 := by omega
  obtain ⟨i0, z, hi0, hs0, hb0, hz0, hc1, hc2, hc3⟩ := Tryz.tiOk101.i
  have hs0 : i0.size = 2 := hs0
  have hb0 : i0.bytes = 24 := hb0
  have hold : (Builtin.firstCells i0.size 0 (.slice none 0 0)).run Tryz.prog w.drew = .ok ([] : List Value).toArray w.drew := run_firstCells_none w.drew i0.size 0 0 0
  have hge := grownCap_ge w n 0 101
  have hG63 := grownCap_le_maxLen w n 0 101 (by unfold maxLen; omega)
  have hrz : ∀ ty, (Builtin.append_ #[41, 3] ty #[.slice none 0 0, .int .i64 (n : Int)]).run Tryz.prog w =
      .ok (.slice (some ⟨w.heap.size, 0, none⟩) n (grownCap w n 0 101)) (w.drew.alloc (.cells (([] : List Value).toArray ++ Builtin.zeroCells z.cells n ++ Builtin.zeroCells z.cells (grownCap w n 0 101 - n)) 101)) := fun ty => by
    have h := Lib.run_append_grow_zeros w 41 3 ty 101 i0 z .i64 .i64 u41 u3 hi0 hz0 none 0 0 [] hold n h0 (by omega) (by omega) (by omega) (by rw [hb0]; omega)
      (by rw [Nat.zero_add]; exact growslice_fits h0 (by rw [hb0]; omega))
    simpa using h
  obtain ⟨G, hG⟩ : ∃ G, G = grownCap w n 0 101 := ⟨_, rfl⟩
  rw [← hG] at hrz hge hG63
  obtain ⟨c0, hc0⟩ : ∃ c, c = ([] : List Value).toArray ++ Builtin.zeroCells z.cells n ++ Builtin.zeroCells z.cells (G - n) := ⟨_, rfl⟩
  rw [← hc0] at hrz
  have fin : GrowPost w (.returned (.slice (some ⟨w.heap.size, 0, none⟩) 0 G)) (w.drew.alloc (.cells c0 101)) := by
    have h9 : z.cells.size = 2 := hc3
    have hzero : ∀ k, ∀ u ∈ (Builtin.zeroCells z.cells k).toList, u.oneCell' = true := by
      intro k u hu
      simp only [Builtin.zeroCells, h9, Array.toList_map, List.mem_map, Array.toList_range, List.mem_range] at hu
      obtain ⟨i, hi, rfl⟩ := hu
      have hlt : i % 2 < z.cells.size := by rw [h9]; omega
      rw [getElem!_pos z.cells (i % 2) hlt]
      exact List.all_eq_true.1 hc2 _ (by simp)
    refine ⟨G, c0, rfl, rfl, hG63, ?_, ?_⟩
    · rw [hc0]
      simp only [Array.size_append, List.size_toArray, size_zeroCells, h9, List.length_nil]
      omega
    · rw [hc0]
      intro u hu
      simp only [Array.toList_append, List.mem_append] at hu
      rcases hu with (hu | hu) | hu
      · simp at hu
      · exact hzero _ u hu
      · exact hzero _ u hu
  clear hold hG hc0 hc1 hc2 hc3 hz0 hi0 hs0 hb0
  go_enter Tryz.func103, Tryz.ntmps103
  go_wp2_with (at_builtin; refine Lib.wpList_append_run _ rfl _ _ _ _ rfl _ _ rfl rfl _ _ (hrz _) ?_)
  all_goals (go_ret; exact fin)

theorem grow_nil (w : World) : Calls Tryz.prog 103 #[.slice none 0 0, .int .i64 0] w fun e w' => e = .returned (.slice none 0 0) ∧ w' = w := by
  have mixed := Tryz.mixed
  have u41 := Tryz.underlying41
  have u3 := Tryz.underlying3
  have u9 := Tryz.underlying9
  have h2 : wrap64 ((0 : Int) - (0 : Int)) = 0 := by unfold wrap64; omega
  go_enter Tryz.func103, Tryz.ntmps103
  go_wp2
  go_ret
  exact ⟨rfl, rfl⟩

namespace Aw
theorem grow_ct (n : Nat) (hn : n ≤ 100000) : CtN Tryz.prog 103 [.v (.slice none 0 0), .v (.int .i64 (n : Int))] 101 2 0 (fun _ => []) := by
  refine ⟨ft103.ok, fun i hi => absurd hi (by omega), fun w vo lt vs hargs => ?_⟩
  obtain ⟨y, r, rfl, e1, y2, r2, rfl, e2, e3⟩ := hargs
  have e1 : y = .slice none 0 0 := e1
  have e2 : y2 = .int .i64 (n : Int) := e2
  have e3 : r2 = [] := e3
  subst e1; subst e2; subst e3
  rcases Nat.eq_zero_or_pos n with rfl | h0
  · refine (grow_nil w).mono ?_
    rintro e w' ⟨rfl, rfl⟩
    exact ⟨_, [], rfl, ⟨SameSys.refl _, Nat.le_refl _, fun _ _ => rfl⟩, ⟨by simp, .inl ⟨rfl, rfl⟩⟩, by simp, fun i hi => absurd hi (by omega)⟩
  · refine (grow_grow n w h0 hn).mono ?_
    rintro e w' ⟨G, cur, rfl, rfl, h1, h2, h3⟩
    exact ⟨_, [], rfl, ⟨⟨rfl, rfl, rfl⟩, Nat.le_of_lt (by show w.heap.size < (w.heap.push _).size; simp), fun k hk => alloc_old w _ k hk⟩,
      ⟨by simp, .inr ⟨w.heap.size, G, cur, rfl, Nat.le_refl _, alloc_new w _, Nat.zero_le _, h1, h2, by simp⟩⟩, by simp, fun i hi => absurd hi (by omega)⟩
end Aw
end Go.Proofs
