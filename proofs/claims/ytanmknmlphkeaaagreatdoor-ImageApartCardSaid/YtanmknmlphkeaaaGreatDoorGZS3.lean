/- A PART OF THE PROOF: an abstract run of the loaded code over value trees, and the functions walked by it. No condition of its own. -/
import Derived.Test.YtanmknmlphkeaaaGreatDoorGZR1
import Derived.DeepKeys
import Derived.Laws.StructEq
import Derived.Test.YtanmknmlphkeaaaGreatDoorGZP5
import Derived.Test.YtanmknmlphkeaaaGreatDoorZF3
namespace Go.Proofs.Aw
open Go Go.Proofs Go.RowKit Go.Deep
set_option maxHeartbeats 4000000
set_option maxRecDepth 100000
/-- a process's cells as values -/
def PV.vs (p : PV) : List Value := [.int .i64 p.pid, .int .i64 p.par, .int .i64 p.st, .int .u32 (p.R 0), .int .u32 (p.R 1), .int .u32 (p.R 2), .int .u32 (p.R 3), .int .u32 (p.R 4), .int .u32 (p.R 5), .int .u32 (p.R 6), .int .u32 (p.R 7), .int .u32 (p.R 8), .int .u32 (p.R 9), .int .u32 (p.R 10), .int .u32 (p.R 11), .int .u32 (p.R 12), .int .u32 (p.R 13), .int .u32 (p.R 14), .int .u32 (p.R 15), .int .u32 p.pc, .bool (p.pt 0).1, .bool (p.pt 0).2.1, .int .i64 (p.pt 0).2.2, .bool (p.pt 1).1, .bool (p.pt 1).2.1, .int .i64 (p.pt 1).2.2, .bool (p.pt 2).1, .bool (p.pt 2).2.1, .int .i64 (p.pt 2).2.2, .bool (p.pt 3).1, .bool (p.pt 3).2.1, .int .i64 (p.pt 3).2.2, .bool (p.pt 4).1, .bool (p.pt 4).2.1, .int .i64 (p.pt 4).2.2, .bool (p.pt 5).1, .bool (p.pt 5).2.1, .int .i64 (p.pt 5).2.2, .bool (p.pt 6).1, .bool (p.pt 6).2.1, .int .i64 (p.pt 6).2.2, .bool (p.pt 7).1, .bool (p.pt 7).2.1, .int .i64 (p.pt 7).2.2, .bool (p.pt 8).1, .bool (p.pt 8).2.1, .int .i64 (p.pt 8).2.2, .bool (p.pt 9).1, .bool (p.pt 9).2.1, .int .i64 (p.pt 9).2.2, .bool (p.pt 10).1, .bool (p.pt 10).2.1, .int .i64 (p.pt 10).2.2, .bool (p.pt 11).1, .bool (p.pt 11).2.1, .int .i64 (p.pt 11).2.2, .bool (p.pt 12).1, .bool (p.pt 12).2.1, .int .i64 (p.pt 12).2.2, .bool (p.pt 13).1, .bool (p.pt 13).2.1, .int .i64 (p.pt 13).2.2, .bool (p.pt 14).1, .bool (p.pt 14).2.1, .int .i64 (p.pt 14).2.2, .bool (p.pt 15).1, .bool (p.pt 15).2.1, .int .i64 (p.pt 15).2.2, .int .i64 (p.fd 0).1, .int .i64 (p.fd 0).2.1, .int .i64 (p.fd 0).2.2, .int .i64 (p.fd 1).1, .int .i64 (p.fd 1).2.1, .int .i64 (p.fd 1).2.2, .int .i64 (p.fd 2).1, .int .i64 (p.fd 2).2.1, .int .i64 (p.fd 2).2.2, .int .i64 (p.fd 3).1, .int .i64 (p.fd 3).2.1, .int .i64 (p.fd 3).2.2, .int .i64 (p.fd 4).1, .int .i64 (p.fd 4).2.1, .int .i64 (p.fd 4).2.2, .int .i64 (p.fd 5).1, .int .i64 (p.fd 5).2.1, .int .i64 (p.fd 5).2.2, .int .i64 (p.fd 6).1, .int .i64 (p.fd 6).2.1, .int .i64 (p.fd 6).2.2, .int .i64 (p.fd 7).1, .int .i64 (p.fd 7).2.1, .int .i64 (p.fd 7).2.2, .bool p.mask, .int .u32 p.code, .int .i64 p.why, .int .u64 p.n]
theorem vs_val (o : Obj) (p : PV) : valL (p.cY o) = some p.vs := by rfl
theorem vs_of {m : Me} {N : Nat} {o : Obj} {p : PV} {ys : List Value} (h : RepL m N (p.cY o) ys) : ys = p.vs := valL_sound (vs_val o p) h
section
variable {H : Type} {enc : TypeId × Value → H} {P : Program} {w : World} {base : Nat} {sp : Nat → Bool} {held : Bool}
theorem mapM_some {α β : Type} {f : α → Option β} : ∀ (l : List α), (∀ a ∈ l, ∃ b, f a = some b) → ∃ r, l.mapM f = some r
  | [], _ => ⟨[], rfl⟩
  | a :: l, h => by
    obtain ⟨b, hb⟩ := h a (by simp)
    obtain ⟨r, hr⟩ := mapM_some l fun x hx => h x (by simp [hx])
    exact ⟨b :: r, by simp [List.mapM_cons, hb, hr]⟩
theorem keyLits_of : ∀ (d : Nat) {t : TypeId} {n : Nat} {cs : List Value} {x : DataW H × List MemPlace}, P.keyTypeAt d t = true → DataW.trod enc P w base sp held n t cs = some x → ∃ L, P.keyLits d t cs = some L
  | 0, t, n, cs, x, hk, h => by simp [Program.keyTypeAt] at hk
  | d + 1, t, n, cs, x, hk, h => by
    unfold Program.keyTypeAt at hk
    split at hk
    · rename_i ht
      obtain ⟨b, rfl, _⟩ := DataW.trod_bool ht h
      exact ⟨_, by simp [Program.keyLits, ht]; rfl⟩
    · rename_i ht
      obtain ⟨z, rfl, _, hz⟩ := DataW.trod_int ht h
      exact ⟨_, by simp only [Program.keyLits, ht, hz, and_self, if_true]; rfl⟩
    · rename_i ht
      obtain ⟨s, rfl, _, hz⟩ := DataW.trod_string ht h
      exact ⟨_, by simp only [Program.keyLits, ht, hz, if_true]; rfl⟩
    · rename_i n' e ht
      cases n with
      | zero => simp [DataW.trod] at h
      | succ n =>
      unfold DataW.trod at h
      rw [ht] at h
      simp only [] at h
      split at h
      · rename_i hl
        obtain ⟨xs, hm, _⟩ := Option.map_eq_some_iff.1 h
        obtain ⟨r, hr⟩ := mapM_some (f := fun i => P.keyLits d e ((cs.drop (i * P.cellsOf e)).take (P.cellsOf e))) (List.range n') fun i hi => by
          have hi' : i < n' := List.mem_range.1 hi
          obtain ⟨y, _, hy⟩ := Lib.mapM_at hm i i (by rw [List.getElem?_range hi'])
          exact keyLits_of d hk hy
        exact ⟨r.flatten, by simp only [Program.keyLits, ht, hl, if_true, hr, Option.map_some]⟩
      · cases h
    · rename_i fs ht
      simp only [Bool.and_eq_true] at hk
      have hall := fun f hf => Array.all_eq_true_iff_forall_mem.1 hk.1.1 f hf
      obtain ⟨xs, q', rfl, rfl, hl, hx, hf⟩ := DataW.trod_struct ht h
      have hnames : fs.all (·.name != "_") = true := Array.all_eq_true_iff_forall_mem.2 fun f hf => by
        have := hall f hf
        simp only [Bool.and_eq_true] at this
        exact this.1
      obtain ⟨r, hr⟩ := mapM_some (f := fun (f : Field) => P.keyLits d f.type ((cs.drop f.offset).take (P.cellsOf f.type))) fs.toList fun f hmem => by
        obtain ⟨j, hj⟩ := List.getElem?_of_mem hmem
        have hj' : fs[j]? = some f := by rw [← hj]; simp
        have hjl : j < xs.length := by
          rw [hx]
          exact (Array.getElem?_eq_some_iff.1 hj').1
        have f0 := hf j f hj'
        rw [List.getElem?_eq_getElem hjl] at f0
        have := hall f (Array.mem_toList_iff.1 hmem)
        simp only [Bool.and_eq_true] at this
        exact keyLits_of d this.2 f0
      exact ⟨r.flatten, by simp only [Program.keyLits, ht, hl, hnames, and_self, if_true, hr, Option.map_some]⟩
    · cases hk
end
section
variable {H : Type} {enc : TypeId × Value → H} {w : World} {base : Nat} {sp : Nat → Bool} {held : Bool}
theorem keyType77 : Tryz.prog.keyType 77 = true := by kernel_rfl
theorem keyAt77 : Tryz.prog.keyTypeAt 10 77 = true := by kernel_rfl
/-- a process that may be compared -/
def KeyP (p : PV) : Prop := ∃ l, keyOf Tryz.prog 77 (.agg p.vs.toArray) = some l
theorem key_proc {o : Obj} (hG : w.heap[1]? = some o) {n : Nat} {cs : List Value} {x : DataW H × List MemPlace} (hl : cs.length = 96) (h : DataW.trod enc Tryz.prog w base sp held n 77 cs = some x) : KeyP (PV.of cs) := by
  have e : cs = (PV.of cs).vs := vs_of (rep_proc hG hl h).1
  obtain ⟨L, hL⟩ := keyLits_of (P := Tryz.prog) (Tryz.prog.types.size + 1) keyType77 h
  refine ⟨.string (keyBytes L), ?_⟩
  rw [← e]
  have hf : (Value.agg cs.toArray).formed Tryz.prog 77 = true := by
    unfold Value.formed
    rw [Tryz.underlying77]
    simp [hl, cells77]
  unfold keyOf
  rw [Tryz.underlying77]
  simp only [keyType77, hf, Bool.and_self, if_true]
  show Option.map _ (Tryz.prog.keyLits (Tryz.prog.types.size + 1) 77 cs) = _
  rw [hL]; rfl
end
theorem eqF_self {o : Obj} {p q : PV} (hk : KeyP p) (h : p.cY o = q.cY o) : EqF Tryz.prog 77 (p.cY o) (q.cY o) true := by
  rw [← h]
  intro m N ys zs w op x y h1 h2
  obtain rfl := vs_of h1
  obtain rfl := vs_of h2
  obtain ⟨l, hl⟩ := hk
  refine ⟨run_eqGuard_agg w op 77 x y _ _ Tryz.eqGuardType77, ?_⟩
  obtain ⟨r, hr, hi⟩ := run_equal_deep w (m := 10) (by omega) keyAt77 (by rw [Tryz.underlying77]) hl hl
  rw [hr, hi.2 rfl]
end Go.Proofs.Aw
namespace Go.Proofs.Aw
open Go Go.Proofs Go.RowKit Go.Deep
set_option maxHeartbeats 4000000
set_option maxRecDepth 100000
section
variable {H : Type} {enc : TypeId × Value → H} {w : World} {base : Nat} {sp : Nat → Bool} {held : Bool}
theorem open_procs {o : Obj} (hG : w.heap[1]? = some o) {fuel : Nat} {cs : List Value} {x : DataW H × List MemPlace} (h : DataW.trod enc Tryz.prog w base sp held fuel 24 cs = some x) : ∃ (n : Nat) (p : Nat → PV) (y : Value), cs = [y] ∧ Rep (Me.of w) 0 (.sl 96 n (fun i => (p i).cY o)) y ∧ y.oneCell' = true ∧ (∀ i, i < n → TyP (p i)) ∧ (∀ i, i < n → TyQ (p i)) ∧ ∀ i, i < n → KeyP (p i) := by
  obtain ⟨n, g, A, c, rfl, h1, h2⟩ := open_slE (F := fun cs => (PV.of cs).cY o) Tryz.underlying24 (by rw [cells77]; decide) (fun n cs x hl h => rep_proc hG (by rw [hl, cells77]) h) h
  rw [cells77] at h1
  refine ⟨n, fun i => PV.of (g i), _, rfl, h1, rfl, fun i hi => ?_, fun i hi => ?_, fun i hi => ?_⟩
  · obtain ⟨k, x, _, ht⟩ := h2 i hi
    exact ty_proc ht
  · obtain ⟨k, x, _, ht⟩ := h2 i hi
    exact ty_procQ ht
  · obtain ⟨k, x, hl, ht⟩ := h2 i hi
    exact key_proc hG (by rw [hl, cells77]) ht
def wrF : List Value → Int × List UInt8
  | [.int _ z, .string s] => (z, s.data.toList)
  | _ => (0, [])
theorem trod_wr {t : TypeId} {f0 f1 : Field} {fs : Array Field} (ht : Tryz.prog.underlying t = some (.struct fs)) (hc : Tryz.prog.cellsOf t = 2) (hs : fs.size = 2) (h0 : fs[0]? = some f0) (h1 : fs[1]? = some f1) (t0 : f0.type = 3 ∧ f0.offset = 0) (t1 : f1.type = 9 ∧ f1.offset = 1)
    {n : Nat} {cs : List Value} {x : DataW H × List MemPlace} (h : DataW.trod enc Tryz.prog w base sp held n t cs = some x) : ∃ z s, cs = [.int .i64 z, .string s] ∧ i64R z := by
  obtain ⟨xs, k, rfl, rfl, hl, hx, hf⟩ := DataW.trod_struct ht h
  rw [hc] at hl
  match cs, hl with
  | [a, b], _ =>
    have g0 := hf 0 f0 h0
    have g1 := hf 1 f1 h1
    rw [t0.1, t0.2, cells3] at g0
    rw [t1.1, t1.2, cells9] at g1
    simp only [List.drop_zero, List.take_succ_cons, List.take_zero, List.drop_succ_cons] at g0 g1
    have hx2 : xs.length = 2 := by rw [hx, hs]
    rw [List.getElem?_eq_getElem (by omega)] at g0 g1
    obtain ⟨z, e0, _, hz⟩ := DataW.trod_int Tryz.underlying3 g0
    obtain ⟨s, e1, _⟩ := DataW.trod_string Tryz.underlying9 g1
    injection e0 with e0
    injection e1 with e1
    subst e0; subst e1
    exact ⟨z, s, rfl, i64_wf hz⟩
theorem open_wrs {o : Obj} (hG : w.heap[1]? = some o) {t e : TypeId} (ht : Tryz.prog.underlying t = some (.slice e)) (hc : Tryz.prog.cellsOf e = 2) (hel : ∀ n cs x, DataW.trod enc Tryz.prog w base sp held n e cs = some x → ∃ z s, cs = [.int .i64 z, .string s] ∧ i64R z) {fuel : Nat} {cs : List Value} {x : DataW H × List MemPlace} (h : DataW.trod enc Tryz.prog w base sp held fuel t cs = some x) : ∃ (n : Nat) (f : Nat → Int × List UInt8) (y : Value), cs = [y] ∧ Rep (Me.of w) 0 (.sl 2 n (wvsY o f)) y ∧ y.oneCell' = true ∧ (∀ i, i < n → i64R (f i).1) ∧ n ≤ 9223372036854775807 := by
  obtain ⟨n, g, A, c, rfl, h1, h2⟩ := open_slE (F := fun cs => wvsY o (fun _ => wrF cs) 0) ht (by rw [hc]; decide) (fun n cs x hl h => by
    obtain ⟨z, s, rfl, _⟩ := hel n cs x h
    exact ⟨⟨_, _, rfl, ⟨rfl, hG, fun h => h.elim⟩, _, _, rfl, strV_of s, rfl⟩, by simp [Value.oneCell']⟩) h
  rw [hc] at h1
  refine ⟨n, fun i => wrF (g i), _, rfl, h1, rfl, fun i hi => ?_, ?_⟩
  · obtain ⟨k, x, _, ht⟩ := h2 i hi
    obtain ⟨z, s, e, hz⟩ := hel k (g i) x ht
    show i64R (wrF (g i)).1
    rw [e]; exact hz
  · obtain ⟨A', c', e, h3, h4, _⟩ := h1
    omega
end
end Go.Proofs.Aw
namespace Go.Proofs.Aw
open Go Go.Proofs Go.RowKit Go.Deep
set_option maxHeartbeats 4000000
set_option maxRecDepth 100000
/-- the ranges of a machine's numbers -/
structure TyR (m : MM) : Prop where
  clock : u64R m.clock
  told : u64R m.told
  quantum : i64R m.quantum
  cur : i64R m.cur
  left : i64R m.left
  next : i64R m.next
  newPipe : i64R m.newPipe
  dleft : i64R m.dleft
  P : ∀ i, i < m.nP → TyP (m.ps i)
  PQ : ∀ i, i < m.nP → TyQ (m.ps i)
  PK : ∀ i, i < m.nP → KeyP (m.ps i)
  W : ∀ i, i < m.nW → i64R (m.pend i).1
  D : ∀ i, i < m.nD → i64R (m.dirty i).1
  Q : ∀ i, i < m.nQ → i64R (m.pq i).1
  nQ : m.nQ ≤ 9223372036854775807
section
variable {H : Type} {enc : TypeId × Value → H} {w : World} {base : Nat} {sp : Nat → Bool} {held : Bool}
theorem trod_87 (n : Nat) (cs : List Value) (x : DataW H × List MemPlace) (h : DataW.trod enc Tryz.prog w base sp held n 87 cs = some x) : ∃ z s, cs = [.int .i64 z, .string s] ∧ i64R z :=
  trod_wr Tryz.underlying87 cells87 rfl rfl rfl ⟨rfl, rfl⟩ ⟨rfl, rfl⟩ h
theorem trod_80 (n : Nat) (cs : List Value) (x : DataW H × List MemPlace) (h : DataW.trod enc Tryz.prog w base sp held n 80 cs = some x) : ∃ z s, cs = [.int .i64 z, .string s] ∧ i64R z :=
  trod_wr Tryz.underlying80 cells80 rfl rfl rfl ⟨rfl, rfl⟩ ⟨rfl, rfl⟩ h
theorem open_driveM {o : Obj} (hG : w.heap[1]? = some o) {n : Nat} {cs : List Value} {x : DataW H × List MemPlace} (h : DataW.trod enc Tryz.prog w base sp held n 28 cs = some x) : ∃ n0 k0 y0 n1 f y1 z, cs = [y0, y1, .int .i64 z] ∧ Rep (Me.of w) 0 (.sl 1 n0 (tx k0)) y0 ∧ y0.oneCell' = true ∧ Rep (Me.of w) 0 (.sl 2 n1 (wvsY o f)) y1 ∧ y1.oneCell' = true ∧ (∀ i, i < n1 → i64R (f i).1) ∧ i64R z := by
  obtain ⟨xs, q, rfl, rfl, hl, hx, hf⟩ := DataW.trod_struct Tryz.underlying28 h
  rw [cells28] at hl
  match cs, hl with
  | [a0, a1, a2], _ =>
    have hx2 : xs.length = 3 := hx
    have f0 : DataW.trod enc Tryz.prog w base sp held q 23 (([a0, a1, a2].drop 0).take (Tryz.prog.cellsOf 23)) = xs[0]? := hf 0 { name := "Blocks", type := 23, offset := 0, embedded := false, tag := "", pkgPath := "", byteOffset := 0 } rfl
    rw [cells23, List.getElem?_eq_getElem (by omega)] at f0
    replace f0 : DataW.trod enc Tryz.prog w base sp held q 23 [a0] = some xs[0] := f0
    have f1 : DataW.trod enc Tryz.prog w base sp held q 26 (([a0, a1, a2].drop 1).take (Tryz.prog.cellsOf 26)) = xs[1]? := hf 1 { name := "Pending", type := 26, offset := 1, embedded := false, tag := "", pkgPath := "", byteOffset := 24 } rfl
    rw [cells26, List.getElem?_eq_getElem (by omega)] at f1
    replace f1 : DataW.trod enc Tryz.prog w base sp held q 26 [a1] = some xs[1] := f1
    have f2 : DataW.trod enc Tryz.prog w base sp held q 3 (([a0, a1, a2].drop 2).take (Tryz.prog.cellsOf 3)) = xs[2]? := hf 2 { name := "Left", type := 3, offset := 2, embedded := false, tag := "", pkgPath := "", byteOffset := 48 } rfl
    rw [cells3, List.getElem?_eq_getElem (by omega)] at f2
    replace f2 : DataW.trod enc Tryz.prog w base sp held q 3 [a2] = some xs[2] := f2
    obtain ⟨n0, k0, y0, e0, r0, o0⟩ := open_texts f0
    obtain ⟨n1, g1, y1, e1, r1, o1, v1, _⟩ := open_wrs hG Tryz.underlying26 cells87 trod_87 f1
    obtain ⟨z, e2, _, hz⟩ := DataW.trod_int Tryz.underlying3 f2
    injection e0 with e0; injection e1 with e1; injection e2 with e2
    subst e0; subst e1; subst e2
    exact ⟨n0, k0, _, n1, g1, _, z, rfl, r0, o0, r1, o1, v1, i64_wf hz⟩
theorem open_macM {o : Obj} (hG : w.heap[1]? = some o) {n : Nat} {cs : List Value} {x : DataW H × List MemPlace} (h : DataW.trod enc Tryz.prog w base sp held n 30 cs = some x) : ∃ m : MM, TyR m ∧ RepL (Me.of w) 0 (m.cY o) cs ∧ ∀ u ∈ cs, u.oneCell' = true := by
  obtain ⟨xs, q, rfl, rfl, hl, hx, hf⟩ := DataW.trod_struct Tryz.underlying30 h
  rw [cells30] at hl
  match cs, hl with
  | [a0, a1, a2, a3, a4, a5, a6, a7, a8, a9, a10, a11, a12, a13, a14, a15, a16], _ =>
    have hx2 : xs.length = 15 := hx
    have f0 : DataW.trod enc Tryz.prog w base sp held q 22 (([a0, a1, a2, a3, a4, a5, a6, a7, a8, a9, a10, a11, a12, a13, a14, a15, a16].drop 0).take (Tryz.prog.cellsOf 22)) = xs[0]? := hf 0 { name := "Clock", type := 22, offset := 0, embedded := false, tag := "", pkgPath := "", byteOffset := 0 } rfl
    rw [cells22, List.getElem?_eq_getElem (by omega)] at f0
    replace f0 : DataW.trod enc Tryz.prog w base sp held q 22 [a0] = some xs[0] := f0
    have f1 : DataW.trod enc Tryz.prog w base sp held q 3 (([a0, a1, a2, a3, a4, a5, a6, a7, a8, a9, a10, a11, a12, a13, a14, a15, a16].drop 1).take (Tryz.prog.cellsOf 3)) = xs[1]? := hf 1 { name := "Quantum", type := 3, offset := 1, embedded := false, tag := "", pkgPath := "", byteOffset := 8 } rfl
    rw [cells3, List.getElem?_eq_getElem (by omega)] at f1
    replace f1 : DataW.trod enc Tryz.prog w base sp held q 3 [a1] = some xs[1] := f1
    have f2 : DataW.trod enc Tryz.prog w base sp held q 3 (([a0, a1, a2, a3, a4, a5, a6, a7, a8, a9, a10, a11, a12, a13, a14, a15, a16].drop 2).take (Tryz.prog.cellsOf 3)) = xs[2]? := hf 2 { name := "Cur", type := 3, offset := 2, embedded := false, tag := "", pkgPath := "", byteOffset := 16 } rfl
    rw [cells3, List.getElem?_eq_getElem (by omega)] at f2
    replace f2 : DataW.trod enc Tryz.prog w base sp held q 3 [a2] = some xs[2] := f2
    have f3 : DataW.trod enc Tryz.prog w base sp held q 3 (([a0, a1, a2, a3, a4, a5, a6, a7, a8, a9, a10, a11, a12, a13, a14, a15, a16].drop 3).take (Tryz.prog.cellsOf 3)) = xs[3]? := hf 3 { name := "Left", type := 3, offset := 3, embedded := false, tag := "", pkgPath := "", byteOffset := 24 } rfl
    rw [cells3, List.getElem?_eq_getElem (by omega)] at f3
    replace f3 : DataW.trod enc Tryz.prog w base sp held q 3 [a3] = some xs[3] := f3
    have f4 : DataW.trod enc Tryz.prog w base sp held q 23 (([a0, a1, a2, a3, a4, a5, a6, a7, a8, a9, a10, a11, a12, a13, a14, a15, a16].drop 4).take (Tryz.prog.cellsOf 23)) = xs[4]? := hf 4 { name := "Frames", type := 23, offset := 4, embedded := false, tag := "", pkgPath := "", byteOffset := 32 } rfl
    rw [cells23, List.getElem?_eq_getElem (by omega)] at f4
    replace f4 : DataW.trod enc Tryz.prog w base sp held q 23 [a4] = some xs[4] := f4
    have f5 : DataW.trod enc Tryz.prog w base sp held q 24 (([a0, a1, a2, a3, a4, a5, a6, a7, a8, a9, a10, a11, a12, a13, a14, a15, a16].drop 5).take (Tryz.prog.cellsOf 24)) = xs[5]? := hf 5 { name := "Procs", type := 24, offset := 5, embedded := false, tag := "", pkgPath := "", byteOffset := 56 } rfl
    rw [cells24, List.getElem?_eq_getElem (by omega)] at f5
    replace f5 : DataW.trod enc Tryz.prog w base sp held q 24 [a5] = some xs[5] := f5
    have f6 : DataW.trod enc Tryz.prog w base sp held q 3 (([a0, a1, a2, a3, a4, a5, a6, a7, a8, a9, a10, a11, a12, a13, a14, a15, a16].drop 6).take (Tryz.prog.cellsOf 3)) = xs[6]? := hf 6 { name := "Next", type := 3, offset := 6, embedded := false, tag := "", pkgPath := "", byteOffset := 80 } rfl
    rw [cells3, List.getElem?_eq_getElem (by omega)] at f6
    replace f6 : DataW.trod enc Tryz.prog w base sp held q 3 [a6] = some xs[6] := f6
    have f7 : DataW.trod enc Tryz.prog w base sp held q 9 (([a0, a1, a2, a3, a4, a5, a6, a7, a8, a9, a10, a11, a12, a13, a14, a15, a16].drop 7).take (Tryz.prog.cellsOf 9)) = xs[7]? := hf 7 { name := "Init", type := 9, offset := 7, embedded := false, tag := "", pkgPath := "", byteOffset := 88 } rfl
    rw [cells9, List.getElem?_eq_getElem (by omega)] at f7
    replace f7 : DataW.trod enc Tryz.prog w base sp held q 9 [a7] = some xs[7] := f7
    have f8 : DataW.trod enc Tryz.prog w base sp held q 25 (([a0, a1, a2, a3, a4, a5, a6, a7, a8, a9, a10, a11, a12, a13, a14, a15, a16].drop 8).take (Tryz.prog.cellsOf 25)) = xs[8]? := hf 8 { name := "Pipes", type := 25, offset := 8, embedded := false, tag := "", pkgPath := "", byteOffset := 104 } rfl
    rw [cells25, List.getElem?_eq_getElem (by omega)] at f8
    replace f8 : DataW.trod enc Tryz.prog w base sp held q 25 [a8] = some xs[8] := f8
    have f9 : DataW.trod enc Tryz.prog w base sp held q 3 (([a0, a1, a2, a3, a4, a5, a6, a7, a8, a9, a10, a11, a12, a13, a14, a15, a16].drop 9).take (Tryz.prog.cellsOf 3)) = xs[9]? := hf 9 { name := "NewPipe", type := 3, offset := 9, embedded := false, tag := "", pkgPath := "", byteOffset := 128 } rfl
    rw [cells3, List.getElem?_eq_getElem (by omega)] at f9
    replace f9 : DataW.trod enc Tryz.prog w base sp held q 3 [a9] = some xs[9] := f9
    have f10 : DataW.trod enc Tryz.prog w base sp held q 9 (([a0, a1, a2, a3, a4, a5, a6, a7, a8, a9, a10, a11, a12, a13, a14, a15, a16].drop 10).take (Tryz.prog.cellsOf 9)) = xs[10]? := hf 10 { name := "In", type := 9, offset := 10, embedded := false, tag := "", pkgPath := "", byteOffset := 136 } rfl
    rw [cells9, List.getElem?_eq_getElem (by omega)] at f10
    replace f10 : DataW.trod enc Tryz.prog w base sp held q 9 [a10] = some xs[10] := f10
    have f11 : DataW.trod enc Tryz.prog w base sp held q 4 (([a0, a1, a2, a3, a4, a5, a6, a7, a8, a9, a10, a11, a12, a13, a14, a15, a16].drop 11).take (Tryz.prog.cellsOf 4)) = xs[11]? := hf 11 { name := "End", type := 4, offset := 11, embedded := false, tag := "", pkgPath := "", byteOffset := 152 } rfl
    rw [cells4, List.getElem?_eq_getElem (by omega)] at f11
    replace f11 : DataW.trod enc Tryz.prog w base sp held q 4 [a11] = some xs[11] := f11
    have f12 : DataW.trod enc Tryz.prog w base sp held q 22 (([a0, a1, a2, a3, a4, a5, a6, a7, a8, a9, a10, a11, a12, a13, a14, a15, a16].drop 12).take (Tryz.prog.cellsOf 22)) = xs[12]? := hf 12 { name := "Told", type := 22, offset := 12, embedded := false, tag := "", pkgPath := "", byteOffset := 160 } rfl
    rw [cells22, List.getElem?_eq_getElem (by omega)] at f12
    replace f12 : DataW.trod enc Tryz.prog w base sp held q 22 [a12] = some xs[12] := f12
    have f13 : DataW.trod enc Tryz.prog w base sp held q 28 (([a0, a1, a2, a3, a4, a5, a6, a7, a8, a9, a10, a11, a12, a13, a14, a15, a16].drop 13).take (Tryz.prog.cellsOf 28)) = xs[13]? := hf 13 { name := "Drive", type := 28, offset := 13, embedded := false, tag := "", pkgPath := "", byteOffset := 168 } rfl
    rw [cells28, List.getElem?_eq_getElem (by omega)] at f13
    replace f13 : DataW.trod enc Tryz.prog w base sp held q 28 [a13, a14, a15] = some xs[13] := f13
    have f14 : DataW.trod enc Tryz.prog w base sp held q 26 (([a0, a1, a2, a3, a4, a5, a6, a7, a8, a9, a10, a11, a12, a13, a14, a15, a16].drop 16).take (Tryz.prog.cellsOf 26)) = xs[14]? := hf 14 { name := "Dirty", type := 26, offset := 16, embedded := false, tag := "", pkgPath := "", byteOffset := 224 } rfl
    rw [cells26, List.getElem?_eq_getElem (by omega)] at f14
    replace f14 : DataW.trod enc Tryz.prog w base sp held q 26 [a16] = some xs[14] := f14
    obtain ⟨c0, e0, _, h0⟩ := DataW.trod_int Tryz.underlying22 f0
    injection e0 with e0
    subst e0
    obtain ⟨c1, e1, _, h1⟩ := DataW.trod_int Tryz.underlying3 f1
    injection e1 with e1
    subst e1
    obtain ⟨c2, e2, _, h2⟩ := DataW.trod_int Tryz.underlying3 f2
    injection e2 with e2
    subst e2
    obtain ⟨c3, e3, _, h3⟩ := DataW.trod_int Tryz.underlying3 f3
    injection e3 with e3
    subst e3
    obtain ⟨n4, k4, y4, e4, r4, o4⟩ := open_texts f4
    injection e4 with e4
    subst e4
    obtain ⟨n5, p5, y5, e5, r5, o5, v5, w5, k5⟩ := open_procs hG f5
    injection e5 with e5
    subst e5
    obtain ⟨c6, e6, _, h6⟩ := DataW.trod_int Tryz.underlying3 f6
    injection e6 with e6
    subst e6
    obtain ⟨s7, e7, _⟩ := DataW.trod_string Tryz.underlying9 f7
    injection e7 with e7
    subst e7
    obtain ⟨n8, g8, y8, e8, r8, o8, v8, b8⟩ := open_wrs hG Tryz.underlying25 cells80 trod_80 f8
    injection e8 with e8
    subst e8
    obtain ⟨c9, e9, _, h9⟩ := DataW.trod_int Tryz.underlying3 f9
    injection e9 with e9
    subst e9
    obtain ⟨s10, e10, _⟩ := DataW.trod_string Tryz.underlying9 f10
    injection e10 with e10
    subst e10
    obtain ⟨b11, e11, _⟩ := DataW.trod_bool Tryz.underlying4 f11
    injection e11 with e11
    subst e11
    obtain ⟨c12, e12, _, h12⟩ := DataW.trod_int Tryz.underlying22 f12
    injection e12 with e12
    subst e12
    obtain ⟨n13, k13, y13, n14, g14, y14, c15, e13, r13, o13, r14, o14, v14, h15⟩ := open_driveM hG f13
    injection e13 with e13 e14
    injection e14 with e14 e15
    injection e15 with e15 _
    subst e13; subst e14; subst e15
    obtain ⟨n16, g16, y16, e16, r16, o16, v16, _⟩ := open_wrs hG Tryz.underlying26 cells87 trod_87 f14
    injection e16 with e16
    subst e16
    refine ⟨⟨c0, c1, c2, c3, n4, k4, n5, p5, c6, s7.data.toList, n8, g8, c9, s10.data.toList, b11, c12, n13, k13, n14, g14, c15, n16, g16⟩, ⟨u64_wf h0, u64_wf h12, i64_wf h1, i64_wf h2, i64_wf h3, i64_wf h6, i64_wf h9, h15, v5, w5, k5, v14, v16, v8, b8⟩, ?_, ?_⟩
    · exact ⟨_, _, rfl, rfl, _, _, rfl, ⟨rfl, hG, fun h => h.elim⟩, _, _, rfl, ⟨rfl, hG, fun h => h.elim⟩, _, _, rfl, ⟨rfl, hG, fun h => h.elim⟩, _, _, rfl, r4, _, _, rfl, r5, _, _, rfl, ⟨rfl, hG, fun h => h.elim⟩, _, _, rfl, strV_of s7, _, _, rfl, r8, _, _, rfl, ⟨rfl, hG, fun h => h.elim⟩, _, _, rfl, strV_of s10, _, _, rfl, rfl, _, _, rfl, rfl, _, _, rfl, r13, _, _, rfl, r14, _, _, rfl, ⟨rfl, hG, fun h => h.elim⟩, _, _, rfl, r16, rfl⟩
    · intro u hu
      simp only [List.mem_cons, List.not_mem_nil, or_false] at hu
      rcases hu with rfl | rfl | rfl | rfl | rfl | rfl | rfl | rfl | rfl | rfl | rfl | rfl | rfl | rfl | rfl | rfl | rfl <;> first | rfl | assumption
end
end Go.Proofs.Aw
namespace Go.Proofs.Aw
open Go Go.Proofs Go.RowKit Go.Deep
set_option maxHeartbeats 4000000
set_option maxRecDepth 100000
/-! ### what an image tells, it tells of one machine alone -/
theorem rowL_inj {l l' : List (List UInt8)} (h : rowL l = rowL l') (hl : ∀ s ∈ l, s.length < 268435456) (hl' : ∀ s ∈ l', s.length < 268435456) : l = l' := by
  have h1 := rdT_rowL l hl
  have h2 := rdT_rowL l' hl'
  rw [h, h2] at h1
  injection h1 with h1
  exact h1.symm
def tlL (a : TL) (n : Nat) : List (List UInt8) := (List.range n).map a
theorem tlL_row (a : TL) (n : Nat) : rowL (tlL a n) = rowN a n := by
  have h := rowN_list (tlL a n)
  have hl : (tlL a n).length = n := by simp [tlL]
  rw [hl] at h
  rw [← h]
  have : ∀ k, k ≤ n → rowN (atL (tlL a n)) k = rowN a k := by
    intro k
    induction k with
    | zero => intro _; rfl
    | succ k ih =>
      intro hk
      have e : atL (tlL a n) k = a k := by simp [atL, tlL, List.getD, show k < n by omega]
      simp only [rowN, ih (by omega), e]
  exact this n (Nat.le_refl _)
theorem rowN_inj {a b : TL} {n m : Nat} (h : rowN a n = rowN b m) (ha : ∀ i, i < n → (a i).length < 268435456) (hb : ∀ i, i < m → (b i).length < 268435456) : n = m ∧ ∀ i, i < n → a i = b i := by
  rw [← tlL_row, ← tlL_row] at h
  have h1 := rowL_inj h (by
    intro s hs
    simp only [tlL, List.mem_map, List.mem_range] at hs
    obtain ⟨i, hi, rfl⟩ := hs
    exact ha i hi) (by
    intro s hs
    simp only [tlL, List.mem_map, List.mem_range] at hs
    obtain ⟨i, hi, rfl⟩ := hs
    exact hb i hi)
  have h2 := congrArg List.length h1
  simp only [tlL, List.length_map, List.length_range] at h2
  subst h2
  refine ⟨rfl, fun i hi => ?_⟩
  have h3 := congrArg (fun l => l[i]?) h1
  simpa [tlL, hi] using h3
/-! decimals -/
def dv (l : List UInt8) : Nat := l.foldl (fun n c => n * 10 + (c.toNat - 48)) 0
theorem dv_dec : ∀ (f u : Nat), u ≤ f → dv (Lib.decDigits u) = u
  | f, u, h => by
    rw [Lib.decDigits]
    split
    · rename_i h1
      simp [dv]
      omega
    · rename_i h1
      cases f with
      | zero => omega
      | succ f =>
        have ih := dv_dec f (u / 10) (by omega)
        unfold dv at ih ⊢
        rw [List.foldl_append, ih]
        simp
        omega
theorem dec_head : ∀ (f u : Nat), u ≤ f → ∃ c r, Lib.decDigits u = c :: r ∧ 48 ≤ c.toNat
  | f, u, h => by
    rw [Lib.decDigits]
    split
    · rename_i h1
      exact ⟨_, _, rfl, by simp; omega⟩
    · rename_i h1
      cases f with
      | zero => omega
      | succ f =>
        obtain ⟨c, r, e, hc⟩ := dec_head f (u / 10) (by omega)
        rw [e]
        exact ⟨c, _, rfl, hc⟩
theorem itoa_inj {a b : Int} (h : Lib.itoa a = Lib.itoa b) : a = b := by
  have no : ∀ u r, (45 : UInt8) :: r ≠ Lib.decDigits u := fun u r e => by
    obtain ⟨c, r', e', hc⟩ := dec_head u u (Nat.le_refl _)
    rw [e'] at e
    injection e with e1
    subst e1
    exact absurd hc (by decide)
  unfold Lib.itoa at h
  split at h
  · split at h
    · injection h with _ h
      have := congrArg dv h
      rw [dv_dec _ _ (Nat.le_refl _), dv_dec _ _ (Nat.le_refl _)] at this
      omega
    · exact absurd h (no _ _)
  · split at h
    · exact absurd h.symm (no _ _)
    · have := congrArg dv h
      rw [dv_dec _ _ (Nat.le_refl _), dv_dec _ _ (Nat.le_refl _)] at this
      omega
/-! numbers of so many bytes -/
theorem putF_inj {n m : Nat} : ∀ k, putF n k = putF m k → n % 256 ^ k = m % 256 ^ k
  | 0, _ => by simp [Nat.mod_one]
  | k + 1, h => by
    have h1 := List.append_inj h (by rw [putF_len, putF_len])
    have ih := putF_inj k h1.1
    have h2 : (UInt8.ofNat (n / 256 ^ k % 256)).toNat = (UInt8.ofNat (m / 256 ^ k % 256)).toNat := by
      injection h1.2 with h2
      rw [h2]
    simp only [UInt8.toNat_ofNat'] at h2
    have h3 : n / 256 ^ k % 256 = m / 256 ^ k % 256 := by omega
    rw [Nat.mod_pow_succ, Nat.mod_pow_succ, ih, h3]
theorem put4_inj {x y : Int} (h : putF (n64 x) 4 = putF (n64 y) 4) (hx : 0 ≤ x ∧ x < 4294967296) (hy : 0 ≤ y ∧ y < 4294967296) : x = y := by
  have := putF_inj 4 h
  unfold n64 at this
  omega
theorem put8_inj {x y : Int} (h : putF (n64 x) 8 = putF (n64 y) 8) : x % 18446744073709551616 = y % 18446744073709551616 := by
  have := putF_inj 8 h
  unfold n64 at this
  omega
theorem b8_inj {x y : Int} (h : b8 x = b8 y) : x % 256 = y % 256 := by
  have h1 := congrArg UInt8.toNat h
  unfold b8 at h1
  simp only [UInt8.toNat_ofNat'] at h1
  omega
theorem catN_inj {g g' : Nat → List UInt8} (hl : ∀ i, (g i).length = (g' i).length) : ∀ n, catN g n = catN g' n → ∀ i, i < n → g i = g' i
  | 0, _, i, hi => absurd hi (by omega)
  | n + 1, h, i, hi => by
    have h1 := List.append_inj' h (hl n)
    rcases (by omega : i < n ∨ i = n) with h2 | rfl
    · exact catN_inj hl n h1.1 i h2
    · exact h1.2
theorem pgB_inj {x y : Bool × Bool × Int} (hx : (x.1 = false → x.2.1 = false ∧ x.2.2 = 0) ∧ (x.1 = true → 0 ≤ x.2.2 ∧ x.2.2 < 256)) (hy : (y.1 = false → y.2.1 = false ∧ y.2.2 = 0) ∧ (y.1 = true → 0 ≤ y.2.2 ∧ y.2.2 < 256)) (h : pgB x = pgB y) : x = y := by
  obtain ⟨a, b, c⟩ := x
  obtain ⟨a', b', c'⟩ := y
  simp only at hx hy
  cases a <;> cases a' <;> cases b <;> cases b' <;> simp_all [pgB] <;> (have := b8_inj h; omega)
theorem fdB_inj {x y : Int × Int × Int} (hx : 0 ≤ x.1 ∧ x.1 < 256) (hy : 0 ≤ y.1 ∧ y.1 < 256) (hx1 : i64R x.2.1) (hx2 : i64R x.2.2) (hy1 : i64R y.2.1) (hy2 : i64R y.2.2) (h : fdB x = fdB y) : x = y := by
  obtain ⟨a, b, c⟩ := x
  obtain ⟨a', b', c'⟩ := y
  unfold fdB at h
  have h1 := List.append_inj h (by simp [putF_len])
  have h2 := List.append_inj h1.1 rfl
  injection h2.1 with h3
  have e1 := b8_inj h3
  have e2 := put8_inj h2.2
  have e3 := put8_inj h1.2
  simp only [i64R] at *
  have q1 : a = a' := by omega
  have q2 : b = b' := by omega
  have q3 : c = c' := by omega
  rw [q1, q2, q3]
theorem flagB_inj {a b : Bool} (h : flagB a = flagB b) : a = b := by
  cases a <;> cases b <;> first | rfl | (exact absurd h (by decide))
end Go.Proofs.Aw
namespace Go.Proofs.Aw
open Go Go.Proofs
set_option maxHeartbeats 4000000
set_option maxRecDepth 100000
open Classical in
theorem chk_ok {m : MM} (h : chkE m = 0) : (∀ i, i < m.nP → RowOk m i) ∧ m.nP ≤ 8 ∧ m.nQ ≤ 64 ∧ (∀ i, i < m.nQ → PipeOk m i) ∧ m.inp.length ≤ 65536 ∧ m.init.length ≤ 128 ∧ diskE m = 0 := by
  unfold chkE at h
  split at h
  · cases h
  split at h
  · cases h
  split at h
  · cases h
  split at h
  · cases h
  rename_i h8
  split at h
  · cases h
  rename_i hr
  split at h
  · cases h
  rename_i hq
  split at h
  · cases h
  rename_i hp
  split at h
  · cases h
  rename_i hi
  exact ⟨not_not.1 hr, by omega, by omega, not_not.1 hp, by omega, by omega, h⟩
open Classical in
theorem disk_ok {m : MM} (h : diskE m = 0) : drvErr m = 0 ∧ m.nD ≤ 32 ∧ ∀ i, i < m.nD → (m.dirty i).2.length = 128 := by
  unfold diskE at h
  split at h
  · rename_i h1; exact absurd h h1
  rename_i h1
  split at h
  · cases h
  split at h
  · cases h
  rename_i hd
  split at h
  · cases h
  rename_i hk
  exact ⟨not_not.1 h1, by omega, fun i hi => (not_not.1 hk i hi).2.2.1⟩
theorem pErr_ok {n : Nat} {f : Nat → Int × List UInt8} : ∀ k, pErr n f k = 0 → ∀ i, i < k → (f i).2.length = 128
  | 0, _, i, hi => absurd hi (by omega)
  | k + 1, h, i, hi => by
    unfold pErr at h
    split at h
    · rename_i h1
      rcases (by omega : i < k ∨ i = k) with h2 | rfl
      · exact pErr_ok k h1 i h2
      · unfold wErr at h
        split at h
        · cases h
        split at h
        · cases h
        · rename_i h3; exact Decidable.not_not.1 h3
    · rename_i h1; exact absurd h h1
open Classical in
theorem drv_ok {m : MM} (h : drvErr m = 0) : m.nB ≤ 256 ∧ ∀ i, i < m.nW → (m.pend i).2.length = 128 := by
  unfold drvErr at h
  split at h
  · cases h
  split at h
  · cases h
  · exact ⟨by omega, pErr_ok _ h⟩
theorem tyM_of {m : MM} (hR : TyR m) (hW : m.nW ≤ 80) (hc : chkE m = 0) : TyM m ∧ ∀ i, i < m.nP → NoPage (m.ps i) := by
  obtain ⟨c1, c2, c3, c4, c5, c6, c7⟩ := chk_ok hc
  obtain ⟨d1, d2, d3⟩ := disk_ok c7
  obtain ⟨d4, d5⟩ := drv_ok d1
  refine ⟨⟨hR.clock, hR.told, hR.quantum, hR.cur, hR.left, hR.next, hR.newPipe, hR.dleft, ⟨by omega, hR.P⟩, ⟨by omega, fun i hi => ⟨hR.W i hi, by rw [d5 i hi]; omega⟩⟩, ⟨by omega, fun i hi => ⟨hR.D i hi, by rw [d3 i hi]; omega⟩⟩, ⟨by omega, fun i hi => ⟨hR.Q i hi, by have := (c4 i hi).2.2.2; omega⟩⟩, by omega, by omega⟩, fun i hi k hk h0 => ?_⟩
  have := ((c1 i hi).2.2.2.2.1 k hk).1 h0
  rw [this.2]; rfl
end Go.Proofs.Aw
namespace Go.Proofs.Aw
open Go Go.Proofs Go.RowKit
set_option maxHeartbeats 4000000
set_option maxRecDepth 100000
/-- what the check says of a process, as far as its row is read -/
structure VaP (p : PV) : Prop where
  pt : ∀ k, k < 16 → ((p.pt k).1 = false → (p.pt k).2.1 = false ∧ (p.pt k).2.2 = 0) ∧ ((p.pt k).1 = true → 0 ≤ (p.pt k).2.2 ∧ (p.pt k).2.2 < 256)
  fd : ∀ k, k < 8 → 0 ≤ (p.fd k).1 ∧ (p.fd k).1 < 256
theorem prL_len {p : PV} (h : TyP p) : ∀ s ∈ prL p, s.length < 268435456 := by
  have h1 := itoa_len h.pid.1 h.pid.2
  have h2 := itoa_len h.par.1 h.par.2
  have h3 := itoa_len h.st.1 h.st.2
  have h4 := itoa_len h.why.1 h.why.2
  intro s hs
  simp only [prL, List.mem_cons, List.not_mem_nil, or_false] at hs
  rcases hs with rfl | rfl | rfl | rfl | rfl | rfl | rfl | rfl | rfl | rfl
  · omega
  · omega
  · omega
  · rw [cpuB_len]; omega
  · rw [spB_len]; omega
  · rw [fdsB_len]; omega
  · rw [flagB_len]; omega
  · rw [putF_len]; omega
  · omega
  · rw [putF_len]; omega
theorem prB_inj {p q : PV} (hp : TyP p) (hq : TyP q) (kp : TyQ p) (kq : TyQ q) (vp : VaP p) (vq : VaP q) (h : prB p = prB q) (o : Obj) : p.cY o = q.cY o := by
  have hl := rowL_inj h (prL_len hp) (prL_len hq)
  simp only [prL, List.cons.injEq, and_true] at hl
  obtain ⟨a1, a2, a3, a4, a5, a6, a7, a8, a9, a10⟩ := hl
  have e1 := itoa_inj a1
  have e2 := itoa_inj a2
  have e3 := itoa_inj a3
  have e9 := itoa_inj a9
  have e7 := flagB_inj a7
  have e8 := put4_inj a8 kp.code kq.code
  have e10 : p.n = q.n := by
    have := put8_inj a10
    have := hp.n
    have := hq.n
    omega
  have b4 := List.append_inj a4 (by rw [catN_len (rgB_len p), catN_len (rgB_len q)])
  have eR : ∀ k, k < 16 → p.R k = q.R k := fun k hk => put4_inj (catN_inj (fun i => by rw [rgB_len, rgB_len]) 16 b4.1 k hk) (kp.R k hk) (kq.R k hk)
  have ec := put4_inj b4.2 kp.pc kq.pc
  have eP : ∀ k, k < 16 → p.pt k = q.pt k := fun k hk => pgB_inj (vp.pt k hk) (vq.pt k hk) (catN_inj (g := fun k => pgB (p.pt k)) (g' := fun k => pgB (q.pt k)) (fun i => by rw [pgB_len, pgB_len]) 16 a5 k hk)
  have eF : ∀ k, k < 8 → p.fd k = q.fd k := fun k hk => fdB_inj (vp.fd k hk) (vq.fd k hk) (kp.fd k hk).1 (kp.fd k hk).2 (kq.fd k hk).1 (kq.fd k hk).2 (catN_inj (g := fun k => fdB (p.fd k)) (g' := fun k => fdB (q.fd k)) (fun i => by rw [fdB_len, fdB_len]) 8 a6 k hk)
  unfold PV.cY
  rw [e1, e2, e3, e9, e7, e8, e10, ec, eR 0 (by omega), eR 1 (by omega), eR 2 (by omega), eR 3 (by omega), eR 4 (by omega), eR 5 (by omega), eR 6 (by omega), eR 7 (by omega), eR 8 (by omega), eR 9 (by omega), eR 10 (by omega), eR 11 (by omega), eR 12 (by omega), eR 13 (by omega), eR 14 (by omega), eR 15 (by omega),
    eP 0 (by omega), eP 1 (by omega), eP 2 (by omega), eP 3 (by omega), eP 4 (by omega), eP 5 (by omega), eP 6 (by omega), eP 7 (by omega), eP 8 (by omega), eP 9 (by omega), eP 10 (by omega), eP 11 (by omega), eP 12 (by omega), eP 13 (by omega), eP 14 (by omega), eP 15 (by omega),
    eF 0 (by omega), eF 1 (by omega), eF 2 (by omega), eF 3 (by omega), eF 4 (by omega), eF 5 (by omega), eF 6 (by omega), eF 7 (by omega)]
theorem va_of {m : MM} (hc : chkE m = 0) (hF : m.nF ≤ 256) : ∀ i, i < m.nP → VaP (m.ps i) := by
  obtain ⟨c1, c2, c3, c4, c5, c6, c7⟩ := chk_ok hc
  intro i hi
  have hr := (c1 i hi).2
  refine ⟨fun k hk => ⟨(hr.2.2.2.1 k hk).1, fun h => ?_⟩, fun k hk => ?_⟩
  · have := (hr.2.2.2.1 k hk).2 h
    omega
  · have := (hr.2.2.2.2 k hk).1
    unfold FdOk at this
    omega
theorem restL_len {m : MM} (h : TyM m) : ∀ s ∈ restL m, s.length < 268435456 := by
  have h1 := itoa_len h.quantum.1 h.quantum.2
  have h2 := itoa_len h.cur.1 h.cur.2
  have h3 := itoa_len h.left.1 h.left.2
  have h4 := itoa_len h.next.1 h.next.2
  have h5 := itoa_len h.newPipe.1 h.newPipe.2
  have h6 := itoa_len h.dleft.1 h.dleft.2
  have h7 := h.procs
  have h8 := h.W.len
  have h9 := h.D.len
  have h10 := h.Q.len
  have h11 := h.init
  have h12 := h.inp
  intro s hs
  simp only [restL, List.mem_cons, List.not_mem_nil, or_false] at hs
  rcases hs with rfl | rfl | rfl | rfl | rfl | rfl | rfl | rfl | rfl | rfl | rfl | rfl | rfl | rfl | rfl | rfl
  · show 4 < _; omega
  · rw [putF_len]; omega
  · omega
  · omega
  · omega
  · omega
  · omega
  · omega
  · omega
  · rw [flagB_len]; omega
  · rw [putF_len]; omega
  · omega
  · omega
  · omega
  · omega
  · omega
/-- two machines that may be, of one rest, have the same processes -/
theorem rest_procs {a b : MM} (ha : TyM a) (hb : TyM b) (qa : ∀ i, i < a.nP → TyQ (a.ps i)) (qb : ∀ i, i < b.nP → TyQ (b.ps i)) (va : ∀ i, i < a.nP → VaP (a.ps i)) (vb : ∀ i, i < b.nP → VaP (b.ps i)) (h : restB a = restB b) (o : Obj) : a.nP = b.nP ∧ ∀ i, i < a.nP → (a.ps i).cY o = (b.ps i).cY o := by
  have hl := rowL_inj h (restL_len ha) (restL_len hb)
  simp only [restL, List.cons.injEq, and_true] at hl
  obtain ⟨_, _, _, _, _, _, _, _, _, _, _, _, _, _, _, hp⟩ := hl
  obtain ⟨e, hi⟩ := rowN_inj hp (fun i hi => by have := prB_len (a.ps i) (ha.P.2 i hi); show (prB (a.ps i)).length < _; omega) (fun i hi => by have := prB_len (b.ps i) (hb.P.2 i hi); show (prB (b.ps i)).length < _; omega)
  exact ⟨e, fun i hx => prB_inj (ha.P.2 i hx) (hb.P.2 i (by omega)) (qa i hx) (qb i (by omega)) (va i hx) (vb i (by omega)) (hi i hx) o⟩
end Go.Proofs.Aw
namespace Go.Proofs.Aw
open Go Go.Proofs Go.RowKit
set_option maxHeartbeats 8000000
set_option maxRecDepth 100000
theorem txs52_ct (n m : Nat) (a b : TL) (hn : n ≤ 1000000000) (_hm : m ≤ 1000000000) (v : Bool) (hv : v = true ↔ (n = m ∧ ∀ i, i < n → a i = b i)) : Ct Tryz.prog 52 [.sl 1 n (tx a), .sl 1 m (tx b)] (.v (.bool v)) := by
  have no : ¬ (n = m ∧ ∀ i, i < n → a i = b i) → false = v := fun h => by
    cases v with
    | false => rfl
    | true => exact absurd (hv.1 rfl) h
  refine Ct.enter Tryz.tab2Ok ft52 ?_
  refine ⟨fun h => ?_, fun h => ?_⟩
  · have h := bnT h
    exact ⟨LV.le.bsV2 (no fun hc => h (by rw [hc.1])), rfl⟩
  have hnm : n = m := by have h := bnF h; omega
  clear h
  refine ⟨Nat, fun j => ⟨[(13, iv (j : Int)), (12, iv (n : Int)), (0, .sl 1 n (tx a)), (1, .sl 1 m (tx b))], [], 0, 0⟩, fun j => j ≤ n ∧ (∀ i, i < j → a i = b i), fun j => n - j, 0, ⟨Nat.zero_le _, fun i hi => absurd hi (by omega)⟩, .le ⟨rfl, ⟨rfl, Nat.le_of_ble_eq_true rfl⟩, ⟨LV.le.refl _, rfl, LV.le.refl _, rfl, LV.le.refl _, rfl, LV.le.refl _, rfl, trivial⟩, trivial⟩, fun j hj => ⟨fun h => ?_, fun h => ?_⟩⟩
  · obtain ⟨hj, hp⟩ := hj
    have h := dT h
    have h : (j : Int) < ((n : Nat) : Int) := h
    have hj : j < n := by omega
    have ej := w1 hj (by omega)
    by_cases e : a j = b j
    · refine DrawA.run Tryz.tab2Ok Tryz.mixed [0, 0, 3, 7, 0, 0, 48, 112, 255] [] rfl ?_
      refine ⟨_, ⟨LV.le.refl _, rfl⟩, ?_⟩
      refine ⟨_, ⟨LV.le.refl _, rfl⟩, ?_⟩
      refine ⟨_, ⟨⟨by omega, by omega⟩, LV.le.refl _, rfl⟩, ?_⟩
      refine ⟨_, ⟨LV.le.refl _, rfl⟩, ?_⟩
      refine ⟨_, ⟨LV.le.refl _, rfl⟩, ?_⟩
      refine ⟨_, ⟨LV.le.refl _, rfl⟩, ?_⟩
      refine ⟨_, ⟨⟨by omega, by omega⟩, LV.le.refl _, rfl⟩, ?_⟩
      refine ⟨_, ⟨LV.le.refl _, rfl⟩, ?_⟩
      refine ⟨.v (.bool false), ⟨LV.le.bsV (by simp [e]), rfl⟩, ?_⟩
      refine ⟨True.intro, ?_⟩
      exact ⟨j + 1, ⟨(by omega : j + 1 ≤ n), upTo hp e⟩, (by omega : n - (j + 1) < n - j), .le ⟨rfl, ⟨rfl, Nat.le_of_ble_eq_true rfl⟩, ⟨LV.le.int ej, rfl, LV.le.refl _, rfl, LV.le.refl _, rfl, LV.le.refl _, rfl, trivial⟩, trivial⟩⟩
    · refine DrawA.run Tryz.tab2Ok Tryz.mixed [0, 0, 3, 7, 0, 0, 48, 112, 255] [] rfl ?_
      refine ⟨_, ⟨LV.le.refl _, rfl⟩, ?_⟩
      refine ⟨_, ⟨LV.le.refl _, rfl⟩, ?_⟩
      refine ⟨_, ⟨⟨by omega, by omega⟩, LV.le.refl _, rfl⟩, ?_⟩
      refine ⟨_, ⟨LV.le.refl _, rfl⟩, ?_⟩
      refine ⟨_, ⟨LV.le.refl _, rfl⟩, ?_⟩
      refine ⟨_, ⟨LV.le.refl _, rfl⟩, ?_⟩
      refine ⟨_, ⟨⟨by omega, by omega⟩, LV.le.refl _, rfl⟩, ?_⟩
      refine ⟨_, ⟨LV.le.refl _, rfl⟩, ?_⟩
      refine ⟨.v (.bool true), ⟨LV.le.bsV (by simpa using e), rfl⟩, ?_⟩
      refine ⟨True.intro, ?_⟩
      exact ⟨LV.le.bsV2 (no fun hc => e (hc.2 j (by omega))), rfl⟩
  · obtain ⟨hj, hp⟩ := hj
    have h := dF h
    have h : ¬ (j : Int) < ((n : Nat) : Int) := h
    have hn : j = n := by have : j ≤ n := hj; omega
    exact ⟨LV.le.bsV2 (hv.2 ⟨hnm, fun i hi => hp i (by omega)⟩).symm, rfl⟩
/-- the same texts? -/
def SameT (n m : Nat) (a b : TL) : Prop := n = m ∧ ∀ i, i < n → a i = b i
theorem rsame_ct (n m n' m' : Nat) (a c a' c' : TL) (z z' : List UInt8) (hn : n ≤ 1000000000) (hm : m ≤ 1000000000) (hn' : n' ≤ 1000000000) (hm' : m' ≤ 1000000000) (v : Bool) (hv : v = true ↔ (SameT n n' a a' ∧ SameT m m' c c' ∧ z = z')) : Ct Tryz.prog 14 [imgL n m a c z, imgL n' m' a' c' z'] (.v (.bool v)) := by
  have no : ¬ (SameT n n' a a' ∧ SameT m m' c c' ∧ z = z') → false = v := fun h => by
    cases v with
    | false => rfl
    | true => exact absurd (hv.1 rfl) h
  refine Ct.enter Tryz.tab2Ok ft14 ?_
  by_cases h1 : SameT n n' a a'
  · refine Ct.callC (txs52_ct n n' a a' hn hn' true ⟨fun _ => h1, fun _ => rfl⟩) rfl (leL.refl _) ?_
    by_cases h2 : SameT m m' c c'
    · refine Ct.callC (txs52_ct m m' c c' hm hm' true ⟨fun _ => h2, fun _ => rfl⟩) rfl (leL.refl _) ?_
      by_cases h3 : z = z'
      · exact ⟨LV.le.bsV (by rw [hv.2 ⟨h1, h2, h3⟩]; simp [h3]), rfl⟩
      · exact ⟨LV.le.bsV (by rw [← no fun hc => h3 hc.2.2]; simpa using h3), rfl⟩
    · refine Ct.callC (txs52_ct m m' c c' hm hm' false ⟨fun h => (by cases h), fun h => absurd h h2⟩) rfl (leL.refl _) ?_
      exact ⟨LV.le.bsV2 (no fun hc => h2 hc.2.1), rfl⟩
  · refine Ct.callC (txs52_ct n n' a a' hn hn' false ⟨fun h => (by cases h), fun h => absurd h h1⟩) rfl (leL.refl _) ?_
    exact ⟨LV.le.bsV2 (no fun hc => h1 hc.1), rfl⟩
/-- more than is gone through -/
def LargeM (m : MM) : Prop := m.nP > 8 ∨ m.nW > 60 ∨ m.nD > 32 ∨ m.nQ > 8 ∨ m.inp.length > 300 ∨ m.init.length > 300 ∨ ¬ Sm m.nF m.nB m.fr m.bl []
open Classical in
theorem large_ct {o : Obj} (m : MM) (v : Int) (hy : LargeM m → v = 1) (hn : ¬ LargeM m → v = 0) : Ct Tryz.prog 9 [.agg (m.cY o)] (iv v) := by
  have yes : LargeM m → (1 : Int) = v := fun h => (hy h).symm
  refine Ct.enter Tryz.tab2Ok ft9 ?_
  refine ⟨fun h1 => ?_, fun h1 => ⟨fun h2 => ?_, fun h2 => ⟨fun h3 => ?_, fun h3 => ⟨fun h4 => ?_, fun h4 => ⟨fun h5 => ?_, fun h5 => ⟨fun h6 => ?_, fun h6 => ?_⟩⟩⟩⟩⟩⟩
  · exact ⟨LV.le.int (yes (.inl (by have := dT h1; omega))), rfl⟩
  · exact ⟨LV.le.int (yes (.inr (.inl (by have := dT h2; omega)))), rfl⟩
  · exact ⟨LV.le.int (yes (.inr (.inr (.inl (by have := dT h3; omega))))), rfl⟩
  · exact ⟨LV.le.int (yes (.inr (.inr (.inr (.inl (by have := dT h4; omega)))))), rfl⟩
  · exact ⟨LV.le.int (yes (.inr (.inr (.inr (.inr (.inl (by have := dT h5; omega))))))), rfl⟩
  · exact ⟨LV.le.int (yes (.inr (.inr (.inr (.inr (.inr (.inl (by have := dT h6; omega)))))))), rfl⟩
  · have a1 := dF h1; have a2 := dF h2; have a3 := dF h3; have a4 := dF h4; have a5 := dF h5; have a6 := dF h6
    refine Ct.callC (igreat_ct m.nF m.nB m.fr m.bl []) rfl ⟨_, _, rfl, LV.le.refl _, rfl⟩ ?_
    refine ⟨LV.le.int ?_, rfl⟩
    by_cases hs : Sm m.nF m.nB m.fr m.bl []
    · rw [if_pos hs, hn]
      unfold LargeM
      rintro (h | h | h | h | h | h | h)
      all_goals first | omega | exact h hs
    · rw [if_neg hs]
      exact yes (.inr (.inr (.inr (.inr (.inr (.inr hs))))))
/-- the same machines, as far as the document compares them -/
def SameM (a b : MM) : Prop := SameT a.nF b.nF a.fr b.fr ∧ SameT a.nB b.nB a.bl b.bl ∧ restB a = restB b
set_option maxHeartbeats 16000000 in
theorem samem_ct {o : Obj} (a b : MM) (ha : TyM a) (hb : TyM b) (fa : a.nF ≤ 1000 ∧ a.nB ≤ 1000) (fb : b.nF ≤ 1000 ∧ b.nB ≤ 1000) (ka : ∀ i, i < a.nP → KeyP (a.ps i)) (hp : restB a = restB b → a.nP = b.nP ∧ ∀ i, i < a.nP → (a.ps i).cY o = (b.ps i).cY o) (v : Bool) (hv : v = true ↔ SameM a b) : Ct Tryz.prog 13 [.agg (a.cY o), .agg (b.cY o)] (.v (.bool v)) := by
  have no : ¬ SameM a b → false = v := fun h => by
    cases v with
    | false => rfl
    | true => exact absurd (hv.1 rfl) h
  refine Ct.enter Tryz.tab2Ok ft13 ?_
  by_cases h1 : SameT a.nF b.nF a.fr b.fr
  rotate_left
  · refine DrawA.run Tryz.tab2Ok Tryz.mixed [0, 1, 0, 4, 15, 31, 63, 127, 255, 511, 127, 1151, 3199, 8191, 16383, 32767, 65535, 131071, 262143, 131071, 1048575, 2097151, 4194303] [] rfl ?_
    refine ⟨_, ⟨LV.le.refl _, rfl⟩, ?_⟩
    refine ⟨_, ⟨LV.le.refl _, rfl⟩, ?_⟩
    refine ⟨_, ⟨LV.le.refl _, rfl⟩, ?_⟩
    refine ⟨_, ⟨LV.le.refl _, rfl⟩, ?_⟩
    refine ⟨.v (.bool false), Ct.callC (txs52_ct a.nF b.nF a.fr b.fr (by omega) (by omega) false ⟨fun h => (by cases h), fun h => absurd h h1⟩) rfl (leL.refl _) ⟨LV.le.refl _, rfl⟩, ?_⟩
    refine ⟨_, ⟨LV.le.refl _, rfl⟩, ?_⟩
    refine ⟨_, ⟨LV.le.refl _, rfl⟩, ?_⟩
    refine ⟨_, ⟨LV.le.refl _, rfl⟩, ?_⟩
    refine ⟨_, ⟨LV.le.refl _, rfl⟩, ?_⟩
    refine ⟨_, ⟨LV.le.refl _, rfl⟩, ?_⟩
    refine ⟨_, ⟨LV.le.refl _, rfl⟩, ?_⟩
    refine ⟨_, ⟨LV.le.refl _, rfl⟩, ?_⟩
    refine ⟨_, ⟨LV.le.refl _, rfl⟩, ?_⟩
    refine ⟨_, ⟨LV.le.refl _, rfl⟩, ?_⟩
    refine ⟨_, ⟨LV.le.refl _, rfl⟩, ?_⟩
    refine ⟨_, ⟨LV.le.refl _, rfl⟩, ?_⟩
    refine ⟨_, ⟨LV.le.refl _, rfl⟩, ?_⟩
    refine ⟨_, ⟨LV.le.refl _, rfl⟩, ?_⟩
    refine ⟨_, ⟨LV.le.refl _, rfl⟩, ?_⟩
    refine ⟨_, ⟨LV.le.refl _, rfl⟩, ?_⟩
    refine ⟨_, ⟨LV.le.refl _, rfl⟩, ?_⟩
    refine ⟨_, ⟨LV.le.refl _, rfl⟩, ?_⟩
    refine ⟨_, ⟨LV.le.refl _, rfl⟩, ?_⟩
    refine ⟨True.intro, ?_⟩
    exact ⟨LV.le.bsV2 (no fun hc => h1 hc.1), rfl⟩
  by_cases h2 : SameT a.nB b.nB a.bl b.bl
  rotate_left
  · refine DrawA.run Tryz.tab2Ok Tryz.mixed [0, 1, 0, 4, 15, 31, 63, 127, 255, 511, 127, 1151, 3199, 8191, 16383, 32767, 65535, 131071, 262143, 131071, 1048575, 2097151, 4194303] [] rfl ?_
    refine ⟨_, ⟨LV.le.refl _, rfl⟩, ?_⟩
    refine ⟨_, ⟨LV.le.refl _, rfl⟩, ?_⟩
    refine ⟨_, ⟨LV.le.refl _, rfl⟩, ?_⟩
    refine ⟨_, ⟨LV.le.refl _, rfl⟩, ?_⟩
    refine ⟨.v (.bool true), Ct.callC (txs52_ct a.nF b.nF a.fr b.fr (by omega) (by omega) true ⟨fun _ => h1, fun _ => rfl⟩) rfl (leL.refl _) ⟨LV.le.refl _, rfl⟩, ?_⟩
    refine ⟨_, ⟨LV.le.refl _, rfl⟩, ?_⟩
    refine ⟨_, ⟨LV.le.refl _, rfl⟩, ?_⟩
    refine ⟨_, ⟨LV.le.refl _, rfl⟩, ?_⟩
    refine ⟨_, ⟨LV.le.refl _, rfl⟩, ?_⟩
    refine ⟨_, ⟨LV.le.refl _, rfl⟩, ?_⟩
    refine ⟨_, ⟨LV.le.refl _, rfl⟩, ?_⟩
    refine ⟨_, ⟨LV.le.refl _, rfl⟩, ?_⟩
    refine ⟨_, ⟨LV.le.refl _, rfl⟩, ?_⟩
    refine ⟨.v (.bool false), Ct.callC (txs52_ct a.nB b.nB a.bl b.bl (by omega) (by omega) false ⟨fun h => (by cases h), fun h => absurd h h2⟩) rfl (leL.refl _) ⟨LV.le.refl _, rfl⟩, ?_⟩
    refine ⟨_, ⟨LV.le.refl _, rfl⟩, ?_⟩
    refine ⟨_, ⟨LV.le.refl _, rfl⟩, ?_⟩
    refine ⟨_, ⟨LV.le.refl _, rfl⟩, ?_⟩
    refine ⟨_, ⟨LV.le.refl _, rfl⟩, ?_⟩
    refine ⟨_, ⟨LV.le.refl _, rfl⟩, ?_⟩
    refine ⟨_, ⟨LV.le.refl _, rfl⟩, ?_⟩
    refine ⟨_, ⟨LV.le.refl _, rfl⟩, ?_⟩
    refine ⟨_, ⟨LV.le.refl _, rfl⟩, ?_⟩
    refine ⟨_, ⟨LV.le.refl _, rfl⟩, ?_⟩
    refine ⟨True.intro, ?_⟩
    exact ⟨LV.le.bsV2 (no fun hc => h2 hc.2.1), rfl⟩
  by_cases h3 : restB a = restB b
  rotate_left
  · refine DrawA.run Tryz.tab2Ok Tryz.mixed [0, 1, 0, 4, 15, 31, 63, 127, 255, 511, 127, 1151, 3199, 8191, 16383, 32767, 65535, 131071, 262143, 131071, 1048575, 2097151, 4194303] [] rfl ?_
    refine ⟨_, ⟨LV.le.refl _, rfl⟩, ?_⟩
    refine ⟨_, ⟨LV.le.refl _, rfl⟩, ?_⟩
    refine ⟨_, ⟨LV.le.refl _, rfl⟩, ?_⟩
    refine ⟨_, ⟨LV.le.refl _, rfl⟩, ?_⟩
    refine ⟨.v (.bool true), Ct.callC (txs52_ct a.nF b.nF a.fr b.fr (by omega) (by omega) true ⟨fun _ => h1, fun _ => rfl⟩) rfl (leL.refl _) ⟨LV.le.refl _, rfl⟩, ?_⟩
    refine ⟨_, ⟨LV.le.refl _, rfl⟩, ?_⟩
    refine ⟨_, ⟨LV.le.refl _, rfl⟩, ?_⟩
    refine ⟨_, ⟨LV.le.refl _, rfl⟩, ?_⟩
    refine ⟨_, ⟨LV.le.refl _, rfl⟩, ?_⟩
    refine ⟨_, ⟨LV.le.refl _, rfl⟩, ?_⟩
    refine ⟨_, ⟨LV.le.refl _, rfl⟩, ?_⟩
    refine ⟨_, ⟨LV.le.refl _, rfl⟩, ?_⟩
    refine ⟨_, ⟨LV.le.refl _, rfl⟩, ?_⟩
    refine ⟨.v (.bool true), Ct.callC (txs52_ct a.nB b.nB a.bl b.bl (by omega) (by omega) true ⟨fun _ => h2, fun _ => rfl⟩) rfl (leL.refl _) ⟨LV.le.refl _, rfl⟩, ?_⟩
    refine ⟨_, ⟨LV.le.refl _, rfl⟩, ?_⟩
    refine ⟨_, ⟨LV.le.refl _, rfl⟩, ?_⟩
    refine ⟨_, ⟨LV.le.refl _, rfl⟩, ?_⟩
    refine ⟨.agg (a.cY o), ⟨LV.le.refl _, rfl⟩, ?_⟩
    refine ⟨_, Ct.callC (rrest_ct a ha) rfl ⟨_, _, rfl, a.aY_le o, rfl⟩ ⟨LV.le.refl _, rfl⟩, ?_⟩
    refine ⟨.agg (b.cY o), ⟨LV.le.refl _, rfl⟩, ?_⟩
    refine ⟨_, Ct.callC (rrest_ct b hb) rfl ⟨_, _, rfl, b.aY_le o, rfl⟩ ⟨LV.le.refl _, rfl⟩, ?_⟩
    refine ⟨.v (.bool true), ⟨LV.le.bsV (by simpa using h3), rfl⟩, ?_⟩
    refine ⟨_, ⟨LV.le.refl _, rfl⟩, ?_⟩
    refine ⟨True.intro, ?_⟩
    exact ⟨LV.le.bsV2 (no fun hc => h3 hc.2.2), rfl⟩
  refine DrawA.run Tryz.tab2Ok Tryz.mixed [0, 1, 0, 4, 15, 31, 63, 127, 255, 511, 127, 1151, 3199, 8191, 16383, 32767, 65535, 131071, 262143, 131071, 1048575, 2097151, 4194303] [] rfl ?_
  refine ⟨_, ⟨LV.le.refl _, rfl⟩, ?_⟩
  refine ⟨_, ⟨LV.le.refl _, rfl⟩, ?_⟩
  refine ⟨_, ⟨LV.le.refl _, rfl⟩, ?_⟩
  refine ⟨_, ⟨LV.le.refl _, rfl⟩, ?_⟩
  refine ⟨.v (.bool true), Ct.callC (txs52_ct a.nF b.nF a.fr b.fr (by omega) (by omega) true ⟨fun _ => h1, fun _ => rfl⟩) rfl (leL.refl _) ⟨LV.le.refl _, rfl⟩, ?_⟩
  refine ⟨_, ⟨LV.le.refl _, rfl⟩, ?_⟩
  refine ⟨_, ⟨LV.le.refl _, rfl⟩, ?_⟩
  refine ⟨_, ⟨LV.le.refl _, rfl⟩, ?_⟩
  refine ⟨_, ⟨LV.le.refl _, rfl⟩, ?_⟩
  refine ⟨_, ⟨LV.le.refl _, rfl⟩, ?_⟩
  refine ⟨_, ⟨LV.le.refl _, rfl⟩, ?_⟩
  refine ⟨_, ⟨LV.le.refl _, rfl⟩, ?_⟩
  refine ⟨_, ⟨LV.le.refl _, rfl⟩, ?_⟩
  refine ⟨.v (.bool true), Ct.callC (txs52_ct a.nB b.nB a.bl b.bl (by omega) (by omega) true ⟨fun _ => h2, fun _ => rfl⟩) rfl (leL.refl _) ⟨LV.le.refl _, rfl⟩, ?_⟩
  refine ⟨_, ⟨LV.le.refl _, rfl⟩, ?_⟩
  refine ⟨_, ⟨LV.le.refl _, rfl⟩, ?_⟩
  refine ⟨_, ⟨LV.le.refl _, rfl⟩, ?_⟩
  refine ⟨.agg (a.cY o), ⟨LV.le.refl _, rfl⟩, ?_⟩
  refine ⟨_, Ct.callC (rrest_ct a ha) rfl ⟨_, _, rfl, a.aY_le o, rfl⟩ ⟨LV.le.refl _, rfl⟩, ?_⟩
  refine ⟨.agg (b.cY o), ⟨LV.le.refl _, rfl⟩, ?_⟩
  refine ⟨_, Ct.callC (rrest_ct b hb) rfl ⟨_, _, rfl, b.aY_le o, rfl⟩ ⟨LV.le.refl _, rfl⟩, ?_⟩
  refine ⟨.v (.bool false), ⟨LV.le.bsV (by simp [h3]), rfl⟩, ?_⟩
  refine ⟨_, ⟨LV.le.refl _, rfl⟩, ?_⟩
  refine ⟨True.intro, ?_⟩
  obtain ⟨hn, hi⟩ := hp h3
  have hP := ha.P.1
  refine ⟨Nat, fun j => ⟨[(32, iv (j : Int)), (31, iv (a.nP : Int)), (2, .lp 0 0), (3, .lp 1 0)], [(0, .box 30 (a.cY o)), (1, .box 30 (b.cY o))], 2, 0⟩, fun j => j ≤ a.nP ∧ True, fun j => a.nP - j, 0, ⟨Nat.zero_le _, True.intro⟩, .le ⟨rfl, ⟨rfl, Nat.le_of_ble_eq_true rfl⟩, ⟨LV.le.refl _, rfl, LV.le.refl _, rfl, LV.le.refl _, rfl, LV.le.refl _, rfl, trivial⟩, ⟨⟨_, rfl, LO.le.refl _⟩, rfl, rfl, ⟨_, rfl, LO.le.refl _⟩, rfl, rfl, trivial⟩⟩, fun j hj => ⟨fun h => ?_, fun h => ?_⟩⟩
  · obtain ⟨hj, hp⟩ := hj
    have h := dT h
    have h : (j : Int) < ((a.nP : Nat) : Int) := h
    have hj : j < a.nP := by omega
    have ej := w1 hj (by omega)
    refine DrawA.run Tryz.tab2Ok Tryz.mixed [0, 1, 0, 7, 15, 0, 32, 0, 224, 480, 1023] [] rfl ?_
    refine ⟨_, ⟨LV.le.refl _, rfl⟩, ?_⟩
    refine ⟨_, ⟨LV.le.refl _, rfl⟩, ?_⟩
    refine ⟨_, ⟨LV.le.refl _, rfl⟩, ?_⟩
    refine ⟨_, ⟨⟨by omega, by omega⟩, LV.le.refl _, rfl⟩, ?_⟩
    refine ⟨.agg ((a.ps j).cY o), ⟨LV.le.refl _, rfl⟩, ?_⟩
    refine ⟨_, ⟨LV.le.refl _, rfl⟩, ?_⟩
    refine ⟨_, ⟨LV.le.refl _, rfl⟩, ?_⟩
    refine ⟨_, ⟨LV.le.refl _, rfl⟩, ?_⟩
    refine ⟨_, ⟨⟨by omega, by omega⟩, LV.le.refl _, rfl⟩, ?_⟩
    refine ⟨.agg ((b.ps j).cY o), ⟨LV.le.refl _, rfl⟩, ?_⟩
    refine ⟨.v (.bool false), ⟨_, eqF_self (ka j (by omega)) (hi j (by omega)), LV.le.bsV rfl, rfl⟩, ?_⟩
    refine ⟨True.intro, ?_⟩
    exact ⟨j + 1, ⟨(by omega : j + 1 ≤ a.nP), True.intro⟩, (by omega : a.nP - (j + 1) < a.nP - j), .le ⟨rfl, ⟨rfl, Nat.le_of_ble_eq_true rfl⟩, ⟨LV.le.int ej, rfl, LV.le.refl _, rfl, LV.le.refl _, rfl, LV.le.refl _, rfl, trivial⟩, ⟨⟨_, rfl, LO.le.refl _⟩, rfl, rfl, ⟨_, rfl, LO.le.refl _⟩, rfl, rfl, trivial⟩⟩⟩
  · obtain ⟨hj, hp⟩ := hj
    have h := dF h
    have h : ¬ (j : Int) < ((a.nP : Nat) : Int) := h
    have hn : j = a.nP := by have : j ≤ a.nP := hj; omega
    exact ⟨LV.le.bsV2 (hv.2 ⟨h1, h2, h3⟩).symm, rfl⟩
end Go.Proofs.Aw
