/- A PART OF THE PROOF: an abstract run of the loaded code over value trees, and the functions walked by it. No condition of its own. -/
import Derived.Test.YtanmknmlphkeaaaGreatDoorGZK1
import Derived.Test.YtanmknmlphkeaaaGreatDoorZF3
import Derived.Test.YtanmknmlphkeaaaGreatDoorTabY
namespace Go.Proofs.Aw
open Go Go.Proofs Go.RowKit
set_option maxHeartbeats 4000000
set_option maxRecDepth 100000
def iv (x : Int) : LV := .v (.int .i64 x)
def uv (x : Int) : LV := .v (.int .u32 x)
def lv (x : Int) : LV := .v (.int .u64 x)
/-- a process -/
structure PV where
  pid : Int
  par : Int
  st : Int
  R : Nat → Int
  pc : Int
  pt : Nat → Bool × Bool × Int
  fd : Nat → Int × Int × Int
  mask : Bool
  code : Int
  why : Int
  n : Int
def PV.c (p : PV) : List LV := [iv p.pid, iv p.par, iv p.st, uv (p.R 0), uv (p.R 1), uv (p.R 2), uv (p.R 3), uv (p.R 4), uv (p.R 5), uv (p.R 6), uv (p.R 7), uv (p.R 8), uv (p.R 9), uv (p.R 10), uv (p.R 11), uv (p.R 12), uv (p.R 13), uv (p.R 14), uv (p.R 15), uv p.pc, .bs (p.pt 0).1, .bs (p.pt 0).2.1, iv (p.pt 0).2.2, .bs (p.pt 1).1, .bs (p.pt 1).2.1, iv (p.pt 1).2.2, .bs (p.pt 2).1, .bs (p.pt 2).2.1, iv (p.pt 2).2.2, .bs (p.pt 3).1, .bs (p.pt 3).2.1, iv (p.pt 3).2.2, .bs (p.pt 4).1, .bs (p.pt 4).2.1, iv (p.pt 4).2.2, .bs (p.pt 5).1, .bs (p.pt 5).2.1, iv (p.pt 5).2.2, .bs (p.pt 6).1, .bs (p.pt 6).2.1, iv (p.pt 6).2.2, .bs (p.pt 7).1, .bs (p.pt 7).2.1, iv (p.pt 7).2.2, .bs (p.pt 8).1, .bs (p.pt 8).2.1, iv (p.pt 8).2.2, .bs (p.pt 9).1, .bs (p.pt 9).2.1, iv (p.pt 9).2.2, .bs (p.pt 10).1, .bs (p.pt 10).2.1, iv (p.pt 10).2.2, .bs (p.pt 11).1, .bs (p.pt 11).2.1, iv (p.pt 11).2.2, .bs (p.pt 12).1, .bs (p.pt 12).2.1, iv (p.pt 12).2.2, .bs (p.pt 13).1, .bs (p.pt 13).2.1, iv (p.pt 13).2.2, .bs (p.pt 14).1, .bs (p.pt 14).2.1, iv (p.pt 14).2.2, .bs (p.pt 15).1, .bs (p.pt 15).2.1, iv (p.pt 15).2.2, iv (p.fd 0).1, iv (p.fd 0).2.1, iv (p.fd 0).2.2, iv (p.fd 1).1, iv (p.fd 1).2.1, iv (p.fd 1).2.2, iv (p.fd 2).1, iv (p.fd 2).2.1, iv (p.fd 2).2.2, iv (p.fd 3).1, iv (p.fd 3).2.1, iv (p.fd 3).2.2, iv (p.fd 4).1, iv (p.fd 4).2.1, iv (p.fd 4).2.2, iv (p.fd 5).1, iv (p.fd 5).2.1, iv (p.fd 5).2.2, iv (p.fd 6).1, iv (p.fd 6).2.1, iv (p.fd 6).2.2, iv (p.fd 7).1, iv (p.fd 7).2.1, iv (p.fd 7).2.2, .bs p.mask, uv p.code, iv p.why, lv p.n]
def wvs (f : Nat → Int × List UInt8) (i : Nat) : List LV := [iv (f i).1, .str (f i).2]
/-- a machine -/
structure MM where
  clock : Int
  quantum : Int
  cur : Int
  left : Int
  nF : Nat
  fr : TL
  nP : Nat
  ps : Nat → PV
  next : Int
  init : List UInt8
  nQ : Nat
  pq : Nat → Int × List UInt8
  newPipe : Int
  inp : List UInt8
  fin : Bool
  told : Int
  nB : Nat
  bl : TL
  nW : Nat
  pend : Nat → Int × List UInt8
  dleft : Int
  nD : Nat
  dirty : Nat → Int × List UInt8
def MM.pc (m : MM) (i : Nat) : List LV := (m.ps i).c
def MM.drive (m : MM) : List LV := [.sl 1 m.nB (tx m.bl), .sl 2 m.nW (wvs m.pend), iv m.dleft]
def MM.c (m : MM) : List LV := [lv m.clock, iv m.quantum, iv m.cur, iv m.left, .sl 1 m.nF (tx m.fr), .sl 96 m.nP m.pc, iv m.next, .str m.init, .sl 2 m.nQ (wvs m.pq), iv m.newPipe, .str m.inp, .bs m.fin, lv m.told, .sl 1 m.nB (tx m.bl), .sl 2 m.nW (wvs m.pend), iv m.dleft, .sl 2 m.nD (wvs m.dirty)]
theorem LV.le.bT {p : Prop} [Decidable p] (h : p) : LV.le (.v (.bool true)) (.bs (decide p)) := by rw [decide_eq_true h]; exact LV.le.bs true
theorem LV.le.bF {p : Prop} [Decidable p] (h : ¬ p) : LV.le (.v (.bool false)) (.bs (decide p)) := by rw [decide_eq_false h]; exact LV.le.bs false
theorem LV.le.bD {b : Bool} {p : Prop} [Decidable p] (h : b = true ↔ p) : LV.le (.bs b) (.bs (decide p)) := by
  have : b = decide p := by cases b <;> simp_all
  rw [this]; exact LV.le.refl _
theorem beT {a b : Int} (h : (a == b) = true) : a = b := by simpa using h
theorem beF {a b : Int} (h : (a == b) = false) : a ≠ b := by simpa using h
theorem bnT {a b : Int} (h : (a != b) = true) : a ≠ b := by simpa using h
theorem bnF {a b : Int} (h : (a != b) = false) : a = b := by simpa using h
/-- an index a step on -/
theorem w1 {j n : Nat} (h : j < n) (hn : n ≤ 9223372036854775807) : IntKind.i64.wrap ((j : Int) + 1) = ((j + 1 : Nat) : Int) := by rw [w64] <;> omega


theorem loadK_at {ti : TI} {cs : List LV} {off : Nat} {k : LV → Prop} (x : LV) (h : loadK ti cs off fun y => y = x) (hk : k x) : loadK ti cs off k := by
  unfold loadK at *
  split
  · rename_i e; rw [e] at h
    split
    · rename_i e2; rw [e2] at h; simp only [] at h; rw [h]; exact hk
    · rename_i e2; rw [e2] at h; exact h.elim
  · rename_i e; rw [e] at h
    split
    · rename_i e2; rw [e2] at h; simp only [] at h; rw [h]; exact hk
    · rename_i e2; rw [e2] at h; exact h.elim
theorem below16 {p : Nat → Prop} (h : p 0 ∧ p 1 ∧ p 2 ∧ p 3 ∧ p 4 ∧ p 5 ∧ p 6 ∧ p 7 ∧ p 8 ∧ p 9 ∧ p 10 ∧ p 11 ∧ p 12 ∧ p 13 ∧ p 14 ∧ p 15) : ∀ k, k < 16 → p k := by
  obtain ⟨h0, h1, h2, h3, h4, h5, h6, h7, h8, h9, h10, h11, h12, h13, h14, h15⟩ := h
  intro k hk
  rcases (by omega : k = 0 ∨ k = 1 ∨ k = 2 ∨ k = 3 ∨ k = 4 ∨ k = 5 ∨ k = 6 ∨ k = 7 ∨ k = 8 ∨ k = 9 ∨ k = 10 ∨ k = 11 ∨ k = 12 ∨ k = 13 ∨ k = 14 ∨ k = 15) with rfl | rfl | rfl | rfl | rfl | rfl | rfl | rfl | rfl | rfl | rfl | rfl | rfl | rfl | rfl | rfl <;> assumption
theorem below8 {p : Nat → Prop} (h : p 0 ∧ p 1 ∧ p 2 ∧ p 3 ∧ p 4 ∧ p 5 ∧ p 6 ∧ p 7) : ∀ k, k < 8 → p k := by
  obtain ⟨h0, h1, h2, h3, h4, h5, h6, h7⟩ := h
  intro k hk
  rcases (by omega : k = 0 ∨ k = 1 ∨ k = 2 ∨ k = 3 ∨ k = 4 ∨ k = 5 ∨ k = 6 ∨ k = 7) with rfl | rfl | rfl | rfl | rfl | rfl | rfl | rfl <;> assumption
def PV.ptc (p : PV) : List LV := [.bs (p.pt 0).1, .bs (p.pt 0).2.1, iv (p.pt 0).2.2, .bs (p.pt 1).1, .bs (p.pt 1).2.1, iv (p.pt 1).2.2, .bs (p.pt 2).1, .bs (p.pt 2).2.1, iv (p.pt 2).2.2, .bs (p.pt 3).1, .bs (p.pt 3).2.1, iv (p.pt 3).2.2, .bs (p.pt 4).1, .bs (p.pt 4).2.1, iv (p.pt 4).2.2, .bs (p.pt 5).1, .bs (p.pt 5).2.1, iv (p.pt 5).2.2, .bs (p.pt 6).1, .bs (p.pt 6).2.1, iv (p.pt 6).2.2, .bs (p.pt 7).1, .bs (p.pt 7).2.1, iv (p.pt 7).2.2, .bs (p.pt 8).1, .bs (p.pt 8).2.1, iv (p.pt 8).2.2, .bs (p.pt 9).1, .bs (p.pt 9).2.1, iv (p.pt 9).2.2, .bs (p.pt 10).1, .bs (p.pt 10).2.1, iv (p.pt 10).2.2, .bs (p.pt 11).1, .bs (p.pt 11).2.1, iv (p.pt 11).2.2, .bs (p.pt 12).1, .bs (p.pt 12).2.1, iv (p.pt 12).2.2, .bs (p.pt 13).1, .bs (p.pt 13).2.1, iv (p.pt 13).2.2, .bs (p.pt 14).1, .bs (p.pt 14).2.1, iv (p.pt 14).2.2, .bs (p.pt 15).1, .bs (p.pt 15).2.1, iv (p.pt 15).2.2]
def PV.fdc (p : PV) : List LV := [iv (p.fd 0).1, iv (p.fd 0).2.1, iv (p.fd 0).2.2, iv (p.fd 1).1, iv (p.fd 1).2.1, iv (p.fd 1).2.2, iv (p.fd 2).1, iv (p.fd 2).2.1, iv (p.fd 2).2.2, iv (p.fd 3).1, iv (p.fd 3).2.1, iv (p.fd 3).2.2, iv (p.fd 4).1, iv (p.fd 4).2.1, iv (p.fd 4).2.2, iv (p.fd 5).1, iv (p.fd 5).2.1, iv (p.fd 5).2.2, iv (p.fd 6).1, iv (p.fd 6).2.1, iv (p.fd 6).2.2, iv (p.fd 7).1, iv (p.fd 7).2.1, iv (p.fd 7).2.2]
def PV.rc (p : PV) : List LV := [uv (p.R 0), uv (p.R 1), uv (p.R 2), uv (p.R 3), uv (p.R 4), uv (p.R 5), uv (p.R 6), uv (p.R 7), uv (p.R 8), uv (p.R 9), uv (p.R 10), uv (p.R 11), uv (p.R 12), uv (p.R 13), uv (p.R 14), uv (p.R 15)]
def pte (x : Bool × Bool × Int) : List LV := [.bs x.1, .bs x.2.1, iv x.2.2]
def fde (x : Int × Int × Int) : List LV := [iv x.1, iv x.2.1, iv x.2.2]
theorem pt_at (p : PV) : ∀ k : Nat, k < 16 → loadK Tryz.ti70 p.ptc (((k : Nat) : Int).toNat * Tryz.ti70.size) (fun y => y = .agg (pte (p.pt k))) := below16 ⟨rfl, rfl, rfl, rfl, rfl, rfl, rfl, rfl, rfl, rfl, rfl, rfl, rfl, rfl, rfl, rfl⟩
theorem fd_at (p : PV) : ∀ k : Nat, k < 8 → loadK Tryz.ti74 p.fdc (((k : Nat) : Int).toNat * Tryz.ti74.size) (fun y => y = .agg (fde (p.fd k))) := below8 ⟨rfl, rfl, rfl, rfl, rfl, rfl, rfl, rfl⟩
theorem r_at (p : PV) : ∀ k : Nat, k < 16 → loadK Tryz.ti65 p.rc (((k : Nat) : Int).toNat * Tryz.ti65.size) (fun y => y = uv (p.R k)) := below16 ⟨rfl, rfl, rfl, rfl, rfl, rfl, rfl, rfl, rfl, rfl, rfl, rfl, rfl, rfl, rfl, rfl⟩
end Go.Proofs.Aw
