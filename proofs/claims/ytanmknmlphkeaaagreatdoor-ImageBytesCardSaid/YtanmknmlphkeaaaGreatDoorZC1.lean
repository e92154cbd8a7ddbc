/- A PART OF THE PROOF: an abstract run of the loaded code over value trees, and the functions walked by it. No condition of its own. -/
import Derived.Test.YtanmknmlphkeaaaGreatDoorZD14
import Derived.Test.YtanmknmlphkeaaaGreatDoorZJC
namespace Go.Proofs.Aw
open Go Go.Proofs Go.RowKit Go.Deep
set_option maxHeartbeats 4000000
set_option maxRecDepth 100000
section
variable {H : Type} {enc : TypeId × Value → H} {w : World} {base : Nat} {sp : Nat → Bool} {held : Bool}
theorem cells36 : Tryz.prog.cellsOf 36 = 3 := by kernel_rfl
theorem open_img {n : Nat} {cs : List Value} {x : DataW H × List MemPlace} (h : DataW.trod enc Tryz.prog w base sp held n 36 cs = some x) : ∃ n0 n1 k0 k1 r, RepL (Me.of w) 0 [.sl 1 n0 (tx k0), .sl 1 n1 (tx k1), .str r] cs ∧ ∀ u ∈ cs, u.oneCell' = true := by
  obtain ⟨xs, q, rfl, rfl, hl, hx, hf⟩ := DataW.trod_struct Tryz.underlying36 h
  rw [cells36] at hl
  match cs, hl with
  | [a0, a1, a2], _ =>
    have hx2 : xs.length = 3 := hx
    have f0 : DataW.trod enc Tryz.prog w base sp held q 23 (([a0, a1, a2].drop 0).take (Tryz.prog.cellsOf 23)) = xs[0]? := hf 0 { name := "Frames", type := 23, offset := 0, embedded := false, tag := "", pkgPath := "", byteOffset := 0 } rfl
    rw [cells23, List.getElem?_eq_getElem (by omega)] at f0
    replace f0 : DataW.trod enc Tryz.prog w base sp held q 23 [a0] = some xs[0] := f0
    have f1 : DataW.trod enc Tryz.prog w base sp held q 23 (([a0, a1, a2].drop 1).take (Tryz.prog.cellsOf 23)) = xs[1]? := hf 1 { name := "Blocks", type := 23, offset := 1, embedded := false, tag := "", pkgPath := "", byteOffset := 24 } rfl
    rw [cells23, List.getElem?_eq_getElem (by omega)] at f1
    replace f1 : DataW.trod enc Tryz.prog w base sp held q 23 [a1] = some xs[1] := f1
    have f2 : DataW.trod enc Tryz.prog w base sp held q 9 (([a0, a1, a2].drop 2).take (Tryz.prog.cellsOf 9)) = xs[2]? := hf 2 { name := "Rest", type := 9, offset := 2, embedded := false, tag := "", pkgPath := "", byteOffset := 48 } rfl
    rw [cells9, List.getElem?_eq_getElem (by omega)] at f2
    replace f2 : DataW.trod enc Tryz.prog w base sp held q 9 [a2] = some xs[2] := f2
    obtain ⟨n0, k0, y0, e0, r0, o0⟩ := open_texts f0
    obtain ⟨n1, k1, y1, e1, r1, o1⟩ := open_texts f1
    obtain ⟨s, e2, _⟩ := DataW.trod_string Tryz.underlying9 f2
    injection e0 with e0; injection e1 with e1; injection e2 with e2
    subst e0; subst e1; subst e2
    refine ⟨n0, n1, k0, k1, s.data.toList, ⟨_, _, rfl, r0, _, _, rfl, r1, _, _, rfl, strV_of s, rfl⟩, ?_⟩
    intro u hu
    simp only [List.mem_cons, List.not_mem_nil, or_false] at hu
    rcases hu with rfl | rfl | rfl
    · exact o0
    · exact o1
    · rfl
end
end Go.Proofs.Aw
