/- A PART OF THE PROOF: an abstract run of the loaded code over value trees, and the functions walked by it. No condition of its own. -/
import Derived.Test.YtanmknmlphkeaaaDoorA26
import Derived.ChangeArms
import Derived.Deep.Slices
namespace Go.Proofs.Aw
open Go Go.RowKit Go.Deep

/-! ### what the row's reading tells of an argument -/
abbrev Me.of (w : World) : Me := Me.base w (fun _ => False) (fun _ h => h.elim)

section
variable {H : Type} {enc : TypeId × Value → H} {P : Program} {w : World} {base : Nat} {sp : Nat → Bool} {held : Bool}

theorem open_slE {t e : TypeId} {fuel : Nat} {cs : List Value} {x : DataW H × List MemPlace} {F : List Value → List LV} (ht : P.underlying t = some (.slice e)) (hpos : 0 < P.cellsOf e)
    (hel : ∀ n cs x, cs.length = P.cellsOf e → DataW.trod enc P w base sp held n e cs = some x → RepL (Me.of w) 0 (F cs) cs ∧ ∀ u ∈ cs, u.oneCell' = true)
    (h : DataW.trod enc P w base sp held fuel t cs = some x) : ∃ (n : Nat) (g : Nat → List Value) (A : Option Addr) (c : Nat), cs = [.slice A n c] ∧ Rep (Me.of w) 0 (.sl (P.cellsOf e) n (fun i => F (g i))) (.slice A n c) ∧ (∀ i, i < n → ∃ k x, (g i).length = P.cellsOf e ∧ DataW.trod enc P w base sp held k e (g i) = some x) := by
  rcases open_slice ht h with ⟨rfl, rfl⟩ | ⟨a, len, cap, m, n, D, Pl, rfl, hb, hl, hm, hmm, rfl, hx⟩
  · exact ⟨0, fun _ => [], none, 0, rfl, ⟨none, 0, rfl, Nat.le_refl _, by omega, fun _ => ⟨rfl, rfl⟩, fun h => absurd h (by omega)⟩, fun i hi => absurd hi (by omega)⟩
  · have hlm : len ≤ m := by rw [hmm]; split <;> omega
    obtain ⟨g, hg⟩ := choose_lt (α := List Value) (p := fun i cs' => w.cells? base (a.add (i * P.cellsOf e)) (P.cellsOf e) = some cs' ∧ DataW.trod enc P w base sp held n e cs' = some (D i, Pl i)) hx
    refine ⟨len, g, some a, cap, rfl, ⟨some a, cap, rfl, hl, by unfold maxLen at hm; omega, (by intro h; cases h), fun h0 => ?_⟩, fun i hi => ?_⟩
    · obtain ⟨_, hlen0, hc0⟩ := World.cells?_some (hg 0 (by omega)).1
      have hcell : ∃ v, w.cell? a = some v := by
        have := hc0 0 hpos
        rw [Nat.zero_mul] at this
        have e2 : (a.add 0).add 0 = a := by unfold Addr.add; simp
        rw [e2] at this
        rw [this]
        exact ⟨_, List.getElem?_eq_getElem (by omega)⟩
      obtain ⟨v, hv⟩ := hcell
      obtain ⟨ab, ao, as⟩ := a
      have hspot : as = none := by
        unfold World.cell? at hv
        split at hv
        · split at hv
          · cases hv
          · rename_i h1; simpa using h1
        · cases hv
      subst hspot
      have hsz : ab < w.heap.size := by
        cases hh : w.heap[ab]? with
        | none => simp [World.cell?, hh] at hv
        | some o => exact (Array.getElem?_eq_some_iff.1 hh).1
      refine ⟨ab, ao, rfl, fun h => h.elim, hsz, fun i hi => ?_⟩
      obtain ⟨h1, h2⟩ := hg i (by omega)
      obtain ⟨_, h3, h4⟩ := World.cells?_some h1
      obtain ⟨h5, h6⟩ := hel n (g i) _ h3 h2
      refine ⟨g i, h5, h3, fun j y hj => ?_⟩
      have hjl : j < P.cellsOf e := by rw [← h3]; exact (List.getElem?_eq_some_iff.1 hj).1
      have h7 := h4 j hjl
      rw [hj, add_add, add_at] at h7
      refine ⟨?_, h6 y (List.mem_of_getElem? hj)⟩
      rw [Nat.add_assoc]
      exact h7
    · obtain ⟨h1, h2⟩ := hg i (by omega)
      exact ⟨n, _, (World.cells?_some h1).2.1, h2⟩
end
end Go.Proofs.Aw
