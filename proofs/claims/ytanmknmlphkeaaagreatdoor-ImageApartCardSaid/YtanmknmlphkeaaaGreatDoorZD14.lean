/- A PART OF THE PROOF: an abstract run of the loaded code over value trees, and the functions walked by it. No condition of its own. -/
import Derived.Test.YtanmknmlphkeaaaGreatDoorGZG1
import Derived.Test.YtanmknmlphkeaaaGreatDoorGA27
namespace Go.Proofs.Aw
open Go Go.Proofs Go.RowKit Go.Deep
set_option maxHeartbeats 4000000
set_option maxRecDepth 100000
section
variable {H : Type} {enc : TypeId × Value → H} {w : World} {base : Nat} {sp : Nat → Bool} {held : Bool}
theorem strV_of (s : ByteArray) : Value.string s = strV s.data.toList := by
  obtain ⟨d⟩ := s
  simp [strV]
theorem cells101 : Tryz.prog.cellsOf 101 = 2 := by kernel_rfl
theorem cells9 : Tryz.prog.cellsOf 9 = 1 := by kernel_rfl
theorem cells4 : Tryz.prog.cellsOf 4 = 1 := by kernel_rfl
def keptF : List Value → Bool × List UInt8
  | [.bool b, .string s] => (b, s.data.toList)
  | _ => (false, [])
def textF : List Value → List UInt8
  | [.string s] => s.data.toList
  | _ => []
theorem trod_kept {n : Nat} {cs : List Value} {x : DataW H × List MemPlace} (h : DataW.trod enc Tryz.prog w base sp held n 101 cs = some x) : ∃ b s, cs = [.bool b, .string s] := by
  obtain ⟨xs, k, rfl, rfl, hl, hx, hf⟩ := DataW.trod_struct Tryz.underlying101 h
  rw [cells101] at hl
  match cs, hl with
  | [a, b], _ =>
    have f0 : DataW.trod enc Tryz.prog w base sp held k 4 (([a, b].drop 0).take (Tryz.prog.cellsOf 4)) = xs[0]? := hf 0 { name := "Is", type := 4, offset := 0, embedded := false, tag := "", pkgPath := "", byteOffset := 0 } rfl
    have f1 : DataW.trod enc Tryz.prog w base sp held k 9 (([a, b].drop 1).take (Tryz.prog.cellsOf 9)) = xs[1]? := hf 1 { name := "Data", type := 9, offset := 1, embedded := false, tag := "", pkgPath := "", byteOffset := 8 } rfl
    rw [cells4] at f0
    rw [cells9] at f1
    simp only [List.drop_zero, List.take_succ_cons, List.take_zero, List.drop_succ_cons] at f0 f1
    have hx2 : xs.length = 2 := hx
    rw [List.getElem?_eq_getElem (by omega)] at f0 f1
    obtain ⟨b0, e0, _⟩ := DataW.trod_bool Tryz.underlying4 f0
    obtain ⟨s, e1, _⟩ := DataW.trod_string Tryz.underlying9 f1
    injection e0 with e0
    injection e1 with e1
    subst e0; subst e1
    exact ⟨b0, s, rfl⟩
theorem open_kepts {fuel : Nat} {cs : List Value} {x : DataW H × List MemPlace} (h : DataW.trod enc Tryz.prog w base sp held fuel 41 cs = some x) : ∃ (n : Nat) (k : KL) (y : Value), cs = [y] ∧ Rep (Me.of w) 0 (.sl 2 n (kv k)) y ∧ y.oneCell' = true := by
  obtain ⟨n, g, A, c, rfl, h1, h2⟩ := open_slE (F := fun cs => kv (fun _ => keptF cs) 0) Tryz.underlying41 (by rw [cells101]; decide) (fun n cs x hl h => by
    obtain ⟨b, s, rfl⟩ := trod_kept h
    exact ⟨⟨_, _, rfl, rfl, _, _, rfl, strV_of s, rfl⟩, by simp [Value.oneCell']⟩) h
  rw [cells101] at h1
  exact ⟨n, fun i => keptF (g i), _, rfl, h1, rfl⟩
theorem open_texts {fuel : Nat} {cs : List Value} {x : DataW H × List MemPlace} (h : DataW.trod enc Tryz.prog w base sp held fuel 23 cs = some x) : ∃ (n : Nat) (k : TL) (y : Value), cs = [y] ∧ Rep (Me.of w) 0 (.sl 1 n (tx k)) y ∧ y.oneCell' = true := by
  obtain ⟨n, g, A, c, rfl, h1, h2⟩ := open_slE (F := fun cs => tx (fun _ => textF cs) 0) Tryz.underlying23 (by rw [cells9]; decide) (fun n cs x hl h => by
    obtain ⟨s, rfl, _⟩ := DataW.trod_string Tryz.underlying9 h
    exact ⟨⟨_, _, rfl, strV_of s, rfl⟩, by simp [Value.oneCell']⟩) h
  rw [cells9] at h1
  exact ⟨n, fun i => textF (g i), _, rfl, h1, rfl⟩
theorem cells43 : Tryz.prog.cellsOf 43 = 4 := by kernel_rfl
theorem cells30 : Tryz.prog.cellsOf 30 = 17 := by kernel_rfl
theorem cells22 : Tryz.prog.cellsOf 22 = 1 := by kernel_rfl
theorem cells3 : Tryz.prog.cellsOf 3 = 1 := by kernel_rfl
theorem cells23 : Tryz.prog.cellsOf 23 = 1 := by kernel_rfl
theorem cells24 : Tryz.prog.cellsOf 24 = 1 := by kernel_rfl
theorem cells25 : Tryz.prog.cellsOf 25 = 1 := by kernel_rfl
theorem cells28 : Tryz.prog.cellsOf 28 = 3 := by kernel_rfl
theorem cells26 : Tryz.prog.cellsOf 26 = 1 := by kernel_rfl
theorem cells41 : Tryz.prog.cellsOf 41 = 1 := by kernel_rfl
theorem open_len {t e : TypeId} {fuel : Nat} {cs : List Value} {x : DataW H × List MemPlace} (ht : Tryz.prog.underlying t = some (.slice e)) (h : DataW.trod enc Tryz.prog w base sp held fuel t cs = some x) : ∃ A n c, cs = [.slice A n c] := by
  rcases open_slice ht h with ⟨rfl, rfl⟩ | ⟨a, len, cap, m, n, D, Pl, rfl, _⟩
  · exact ⟨_, _, _, rfl⟩
  · exact ⟨_, _, _, rfl⟩
theorem open_shot {n : Nat} {cs : List Value} {x : DataW H × List MemPlace} (h : DataW.trod enc Tryz.prog w base sp held n 43 cs = some x) : ∃ c n0 n1 k0 k1 r, RepL (Me.of w) 0 [.v (.int .u64 c), .sl 2 n0 (kv k0), .sl 2 n1 (kv k1), .str r] cs ∧ ∀ u ∈ cs, u.oneCell' = true := by
  obtain ⟨xs, q, rfl, rfl, hl, hx, hf⟩ := DataW.trod_struct Tryz.underlying43 h
  rw [cells43] at hl
  match cs, hl with
  | [a0, a1, a2, a3], _ =>
    have hx2 : xs.length = 4 := hx
    have f0 : DataW.trod enc Tryz.prog w base sp held q 22 (([a0, a1, a2, a3].drop 0).take (Tryz.prog.cellsOf 22)) = xs[0]? := hf 0 { name := "Clock", type := 22, offset := 0, embedded := false, tag := "", pkgPath := "", byteOffset := 0 } rfl
    rw [cells22, List.getElem?_eq_getElem (by omega)] at f0
    replace f0 : DataW.trod enc Tryz.prog w base sp held q 22 [a0] = some xs[0] := f0
    have f1 : DataW.trod enc Tryz.prog w base sp held q 41 (([a0, a1, a2, a3].drop 1).take (Tryz.prog.cellsOf 41)) = xs[1]? := hf 1 { name := "Frames", type := 41, offset := 1, embedded := false, tag := "", pkgPath := "", byteOffset := 8 } rfl
    rw [cells41, List.getElem?_eq_getElem (by omega)] at f1
    replace f1 : DataW.trod enc Tryz.prog w base sp held q 41 [a1] = some xs[1] := f1
    have f2 : DataW.trod enc Tryz.prog w base sp held q 41 (([a0, a1, a2, a3].drop 2).take (Tryz.prog.cellsOf 41)) = xs[2]? := hf 2 { name := "Blocks", type := 41, offset := 2, embedded := false, tag := "", pkgPath := "", byteOffset := 32 } rfl
    rw [cells41, List.getElem?_eq_getElem (by omega)] at f2
    replace f2 : DataW.trod enc Tryz.prog w base sp held q 41 [a2] = some xs[2] := f2
    have f3 : DataW.trod enc Tryz.prog w base sp held q 9 (([a0, a1, a2, a3].drop 3).take (Tryz.prog.cellsOf 9)) = xs[3]? := hf 3 { name := "Rest", type := 9, offset := 3, embedded := false, tag := "", pkgPath := "", byteOffset := 56 } rfl
    rw [cells9, List.getElem?_eq_getElem (by omega)] at f3
    replace f3 : DataW.trod enc Tryz.prog w base sp held q 9 [a3] = some xs[3] := f3
    obtain ⟨c, e0, _⟩ := DataW.trod_int Tryz.underlying22 f0
    obtain ⟨n0, k0, y1, e1, r1, o1⟩ := open_kepts f1
    obtain ⟨n1, k1, y2, e2, r2, o2⟩ := open_kepts f2
    obtain ⟨s, e3, _⟩ := DataW.trod_string Tryz.underlying9 f3
    injection e0 with e0; injection e1 with e1; injection e2 with e2; injection e3 with e3
    subst e0; subst e1; subst e2; subst e3
    refine ⟨c, n0, n1, k0, k1, s.data.toList, ⟨_, _, rfl, rfl, _, _, rfl, r1, _, _, rfl, r2, _, _, rfl, strV_of s, rfl⟩, ?_⟩
    intro u hu
    simp only [List.mem_cons, List.not_mem_nil, or_false] at hu
    rcases hu with rfl | rfl | rfl | rfl
    · rfl
    · exact o1
    · exact o2
    · rfl
theorem open_drive {n : Nat} {cs : List Value} {x : DataW H × List MemPlace} (h : DataW.trod enc Tryz.prog w base sp held n 28 cs = some x) : ∃ n0 k0 y0 A n1 c z, cs = [y0, .slice A n1 c, .int .i64 z] ∧ Rep (Me.of w) 0 (.sl 1 n0 (tx k0)) y0 ∧ y0.oneCell' = true := by
  obtain ⟨xs, q, rfl, rfl, hl, hx, hf⟩ := DataW.trod_struct Tryz.underlying28 h
  rw [cells28] at hl
  match cs, hl with
  | [a0, a1, a2], _ =>
    have hx2 : xs.length = 3 := hx
    have f0 : DataW.trod enc Tryz.prog w base sp held q 23 (([a0, a1, a2].drop 0).take (Tryz.prog.cellsOf 23)) = xs[0]? := hf 0 { name := "Blocks", type := 23, offset := 0, embedded := false, tag := "", pkgPath := "", byteOffset := 0 } rfl
    rw [cells23, List.getElem?_eq_getElem (by omega)] at f0
    replace f0 : DataW.trod enc Tryz.prog w base sp held q 23 [a0] = some xs[0] := f0
    have f1 : DataW.trod enc Tryz.prog w base sp held q 26 (([a0, a1, a2].drop 1).take (Tryz.prog.cellsOf 26)) = xs[1]? := hf 1 { name := "Pending", type := 26, offset := 1, embedded := false, tag := "", pkgPath := "", byteOffset := 24 } rfl
    rw [cells26, List.getElem?_eq_getElem (by omega)] at f1
    replace f1 : DataW.trod enc Tryz.prog w base sp held q 26 [a1] = some xs[1] := f1
    have f2 : DataW.trod enc Tryz.prog w base sp held q 3 (([a0, a1, a2].drop 2).take (Tryz.prog.cellsOf 3)) = xs[2]? := hf 2 { name := "Left", type := 3, offset := 2, embedded := false, tag := "", pkgPath := "", byteOffset := 48 } rfl
    rw [cells3, List.getElem?_eq_getElem (by omega)] at f2
    replace f2 : DataW.trod enc Tryz.prog w base sp held q 3 [a2] = some xs[2] := f2
    obtain ⟨n0, k0, y0, e0, r0, o0⟩ := open_texts f0
    obtain ⟨A, n1, c, e1⟩ := open_len Tryz.underlying26 f1
    obtain ⟨z, e2, _⟩ := DataW.trod_int Tryz.underlying3 f2
    injection e0 with e0; injection e1 with e1; injection e2 with e2
    subst e0; subst e1; subst e2
    exact ⟨n0, k0, _, A, n1, c, z, rfl, r0, o0⟩
theorem open_mac {n : Nat} {cs : List Value} {x : DataW H × List MemPlace} (h : DataW.trod enc Tryz.prog w base sp held n 30 cs = some x) : ∃ m : MV, RepL (Me.of w) 0 m.lv cs ∧ ∀ u ∈ cs, u.oneCell' = true := by
  obtain ⟨xs, q, rfl, rfl, hl, hx, hf⟩ := DataW.trod_struct Tryz.underlying30 h
  rw [cells30] at hl
  match cs, hl with
  | [a0, a1, a2, a3, a4, a5, a6, a7, a8, a9, a10, a11, a12, a13, a14, a15, a16], _ =>
    have hx2 : xs.length = 15 := hx
    have f0 : DataW.trod enc Tryz.prog w base sp held q 22 (([a0, a1, a2, a3, a4, a5, a6, a7, a8, a9, a10, a11, a12, a13, a14, a15, a16].drop 0).take (Tryz.prog.cellsOf 22)) = xs[0]? := hf 0 { name := "Clock", type := 22, offset := 0, embedded := false, tag := "", pkgPath := "", byteOffset := 0 } rfl
    rw [cells22, List.getElem?_eq_getElem (by omega)] at f0
    replace f0 : DataW.trod enc Tryz.prog w base sp held q 22 [a0] = some xs[0] := f0
    have f1 : DataW.trod enc Tryz.prog w base sp held q 3 (([a0, a1, a2, a3, a4, a5, a6, a7, a8, a9, a10, a11, a12, a13, a14, a15, a16].drop 1).take (Tryz.prog.cellsOf 3)) = xs[1]? := hf 1 { name := "Quantum", type := 3, offset := 1, embedded := false, tag := "", pkgPath := "", byteOffset := 8 } rfl
    rw [cells3, List.getElem?_eq_getElem (by omega)] at f1
    replace f1 : DataW.trod enc Tryz.prog w base sp held q 3 [a1] = some xs[1] := f1
    have f2 : DataW.trod enc Tryz.prog w base sp held q 3 (([a0, a1, a2, a3, a4, a5, a6, a7, a8, a9, a10, a11, a12, a13, a14, a15, a16].drop 2).take (Tryz.prog.cellsOf 3)) = xs[2]? := hf 2 { name := "Cur", type := 3, offset := 2, embedded := false, tag := "", pkgPath := "", byteOffset := 16 } rfl
    rw [cells3, List.getElem?_eq_getElem (by omega)] at f2
    replace f2 : DataW.trod enc Tryz.prog w base sp held q 3 [a2] = some xs[2] := f2
    have f3 : DataW.trod enc Tryz.prog w base sp held q 3 (([a0, a1, a2, a3, a4, a5, a6, a7, a8, a9, a10, a11, a12, a13, a14, a15, a16].drop 3).take (Tryz.prog.cellsOf 3)) = xs[3]? := hf 3 { name := "Left", type := 3, offset := 3, embedded := false, tag := "", pkgPath := "", byteOffset := 24 } rfl
    rw [cells3, List.getElem?_eq_getElem (by omega)] at f3
    replace f3 : DataW.trod enc Tryz.prog w base sp held q 3 [a3] = some xs[3] := f3
    have f4 : DataW.trod enc Tryz.prog w base sp held q 23 (([a0, a1, a2, a3, a4, a5, a6, a7, a8, a9, a10, a11, a12, a13, a14, a15, a16].drop 4).take (Tryz.prog.cellsOf 23)) = xs[4]? := hf 4 { name := "Frames", type := 23, offset := 4, embedded := false, tag := "", pkgPath := "", byteOffset := 32 } rfl
    rw [cells23, List.getElem?_eq_getElem (by omega)] at f4
    replace f4 : DataW.trod enc Tryz.prog w base sp held q 23 [a4] = some xs[4] := f4
    have f5 : DataW.trod enc Tryz.prog w base sp held q 24 (([a0, a1, a2, a3, a4, a5, a6, a7, a8, a9, a10, a11, a12, a13, a14, a15, a16].drop 5).take (Tryz.prog.cellsOf 24)) = xs[5]? := hf 5 { name := "Procs", type := 24, offset := 5, embedded := false, tag := "", pkgPath := "", byteOffset := 56 } rfl
    rw [cells24, List.getElem?_eq_getElem (by omega)] at f5
    replace f5 : DataW.trod enc Tryz.prog w base sp held q 24 [a5] = some xs[5] := f5
    have f6 : DataW.trod enc Tryz.prog w base sp held q 3 (([a0, a1, a2, a3, a4, a5, a6, a7, a8, a9, a10, a11, a12, a13, a14, a15, a16].drop 6).take (Tryz.prog.cellsOf 3)) = xs[6]? := hf 6 { name := "Next", type := 3, offset := 6, embedded := false, tag := "", pkgPath := "", byteOffset := 80 } rfl
    rw [cells3, List.getElem?_eq_getElem (by omega)] at f6
    replace f6 : DataW.trod enc Tryz.prog w base sp held q 3 [a6] = some xs[6] := f6
    have f7 : DataW.trod enc Tryz.prog w base sp held q 9 (([a0, a1, a2, a3, a4, a5, a6, a7, a8, a9, a10, a11, a12, a13, a14, a15, a16].drop 7).take (Tryz.prog.cellsOf 9)) = xs[7]? := hf 7 { name := "Init", type := 9, offset := 7, embedded := false, tag := "", pkgPath := "", byteOffset := 88 } rfl
    rw [cells9, List.getElem?_eq_getElem (by omega)] at f7
    replace f7 : DataW.trod enc Tryz.prog w base sp held q 9 [a7] = some xs[7] := f7
    have f8 : DataW.trod enc Tryz.prog w base sp held q 25 (([a0, a1, a2, a3, a4, a5, a6, a7, a8, a9, a10, a11, a12, a13, a14, a15, a16].drop 8).take (Tryz.prog.cellsOf 25)) = xs[8]? := hf 8 { name := "Pipes", type := 25, offset := 8, embedded := false, tag := "", pkgPath := "", byteOffset := 104 } rfl
    rw [cells25, List.getElem?_eq_getElem (by omega)] at f8
    replace f8 : DataW.trod enc Tryz.prog w base sp held q 25 [a8] = some xs[8] := f8
    have f9 : DataW.trod enc Tryz.prog w base sp held q 3 (([a0, a1, a2, a3, a4, a5, a6, a7, a8, a9, a10, a11, a12, a13, a14, a15, a16].drop 9).take (Tryz.prog.cellsOf 3)) = xs[9]? := hf 9 { name := "NewPipe", type := 3, offset := 9, embedded := false, tag := "", pkgPath := "", byteOffset := 128 } rfl
    rw [cells3, List.getElem?_eq_getElem (by omega)] at f9
    replace f9 : DataW.trod enc Tryz.prog w base sp held q 3 [a9] = some xs[9] := f9
    have f10 : DataW.trod enc Tryz.prog w base sp held q 9 (([a0, a1, a2, a3, a4, a5, a6, a7, a8, a9, a10, a11, a12, a13, a14, a15, a16].drop 10).take (Tryz.prog.cellsOf 9)) = xs[10]? := hf 10 { name := "In", type := 9, offset := 10, embedded := false, tag := "", pkgPath := "", byteOffset := 136 } rfl
    rw [cells9, List.getElem?_eq_getElem (by omega)] at f10
    replace f10 : DataW.trod enc Tryz.prog w base sp held q 9 [a10] = some xs[10] := f10
    have f11 : DataW.trod enc Tryz.prog w base sp held q 4 (([a0, a1, a2, a3, a4, a5, a6, a7, a8, a9, a10, a11, a12, a13, a14, a15, a16].drop 11).take (Tryz.prog.cellsOf 4)) = xs[11]? := hf 11 { name := "End", type := 4, offset := 11, embedded := false, tag := "", pkgPath := "", byteOffset := 152 } rfl
    rw [cells4, List.getElem?_eq_getElem (by omega)] at f11
    replace f11 : DataW.trod enc Tryz.prog w base sp held q 4 [a11] = some xs[11] := f11
    have f12 : DataW.trod enc Tryz.prog w base sp held q 22 (([a0, a1, a2, a3, a4, a5, a6, a7, a8, a9, a10, a11, a12, a13, a14, a15, a16].drop 12).take (Tryz.prog.cellsOf 22)) = xs[12]? := hf 12 { name := "Told", type := 22, offset := 12, embedded := false, tag := "", pkgPath := "", byteOffset := 160 } rfl
    rw [cells22, List.getElem?_eq_getElem (by omega)] at f12
    replace f12 : DataW.trod enc Tryz.prog w base sp held q 22 [a12] = some xs[12] := f12
    have f13 : DataW.trod enc Tryz.prog w base sp held q 28 (([a0, a1, a2, a3, a4, a5, a6, a7, a8, a9, a10, a11, a12, a13, a14, a15, a16].drop 13).take (Tryz.prog.cellsOf 28)) = xs[13]? := hf 13 { name := "Drive", type := 28, offset := 13, embedded := false, tag := "", pkgPath := "", byteOffset := 168 } rfl
    rw [cells28, List.getElem?_eq_getElem (by omega)] at f13
    replace f13 : DataW.trod enc Tryz.prog w base sp held q 28 [a13, a14, a15] = some xs[13] := f13
    have f14 : DataW.trod enc Tryz.prog w base sp held q 26 (([a0, a1, a2, a3, a4, a5, a6, a7, a8, a9, a10, a11, a12, a13, a14, a15, a16].drop 16).take (Tryz.prog.cellsOf 26)) = xs[14]? := hf 14 { name := "Dirty", type := 26, offset := 16, embedded := false, tag := "", pkgPath := "", byteOffset := 224 } rfl
    rw [cells26, List.getElem?_eq_getElem (by omega)] at f14
    replace f14 : DataW.trod enc Tryz.prog w base sp held q 26 [a16] = some xs[14] := f14
    obtain ⟨c0, e0, _⟩ := DataW.trod_int Tryz.underlying22 f0
    injection e0 with e0
    subst e0
    obtain ⟨c1, e1, _⟩ := DataW.trod_int Tryz.underlying3 f1
    injection e1 with e1
    subst e1
    obtain ⟨c2, e2, _⟩ := DataW.trod_int Tryz.underlying3 f2
    injection e2 with e2
    subst e2
    obtain ⟨c3, e3, _⟩ := DataW.trod_int Tryz.underlying3 f3
    injection e3 with e3
    subst e3
    obtain ⟨n4, k4, y4, e4, r4, o4⟩ := open_texts f4
    injection e4 with e4
    subst e4
    obtain ⟨A5, n5, d5, e5⟩ := open_len Tryz.underlying24 f5
    injection e5 with e5
    subst e5
    obtain ⟨c6, e6, _⟩ := DataW.trod_int Tryz.underlying3 f6
    injection e6 with e6
    subst e6
    obtain ⟨s7, e7, _⟩ := DataW.trod_string Tryz.underlying9 f7
    injection e7 with e7
    subst e7
    obtain ⟨A8, n8, d8, e8⟩ := open_len Tryz.underlying25 f8
    injection e8 with e8
    subst e8
    obtain ⟨c9, e9, _⟩ := DataW.trod_int Tryz.underlying3 f9
    injection e9 with e9
    subst e9
    obtain ⟨s10, e10, _⟩ := DataW.trod_string Tryz.underlying9 f10
    injection e10 with e10
    subst e10
    obtain ⟨b11, e11, _⟩ := DataW.trod_bool Tryz.underlying4 f11
    injection e11 with e11
    subst e11
    obtain ⟨c12, e12, _⟩ := DataW.trod_int Tryz.underlying22 f12
    injection e12 with e12
    subst e12
    obtain ⟨n13, k13, y13, A13, p13, d13, z13, e13, r13, o13⟩ := open_drive f13
    injection e13 with g1 g2
    injection g2 with g2 g3
    injection g3 with g3
    subst g1; subst g2; subst g3
    obtain ⟨A14, n14, d14, e14⟩ := open_len Tryz.underlying26 f14
    injection e14 with e14
    subst e14
    refine ⟨⟨n4, n13, k4, k13, n5, p13, n14, A5, A13, A14, d5, d13, d14⟩, ⟨_, _, rfl, trivial, _, _, rfl, trivial, _, _, rfl, trivial, _, _, rfl, trivial, _, _, rfl, r4, _, _, rfl, rfl, _, _, rfl, trivial, _, _, rfl, trivial, _, _, rfl, trivial, _, _, rfl, trivial, _, _, rfl, trivial, _, _, rfl, trivial, _, _, rfl, trivial, _, _, rfl, r13, _, _, rfl, rfl, _, _, rfl, trivial, _, _, rfl, rfl, rfl⟩, ?_⟩
    intro u hu
    simp only [List.mem_cons, List.not_mem_nil, or_false] at hu
    rcases hu with rfl | rfl | rfl | rfl | rfl | rfl | rfl | rfl | rfl | rfl | rfl | rfl | rfl | rfl | rfl | rfl | rfl
    all_goals first | rfl | assumption
end
end Go.Proofs.Aw
