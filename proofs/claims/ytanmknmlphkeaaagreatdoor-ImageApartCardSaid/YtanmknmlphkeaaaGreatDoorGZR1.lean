/- A PART OF THE PROOF: an abstract run of the loaded code over value trees, and the functions walked by it. No condition of its own. -/
import Derived.Test.YtanmknmlphkeaaaGreatDoorZD14
import Derived.Test.YtanmknmlphkeaaaGreatDoorGZP5
namespace Go.Proofs.Aw
open Go Go.Proofs Go.RowKit Go.Deep
set_option maxHeartbeats 4000000
set_option maxRecDepth 100000
/-! ### a value without pointers, cell by cell -/
inductive CK where
  | i (k : IntKind)
  | b
def CK.ok : CK → Value → Prop
  | .i k, v => ∃ z, v = .int k z ∧ (Lit.int k z).wf = true
  | .b, v => ∃ x, v = .bool x
def kindAt (P : Program) : Nat → TypeId → Nat → Option CK
  | 0, _, _ => none
  | f + 1, t, i => match P.underlying t with
    | some .bool => if i = 0 then some .b else none
    | some (.int k) => if i = 0 then some (.i k) else none
    | some (.struct fs) => match fs.toList.find? fun f => decide (f.offset ≤ i) && decide (i < f.offset + P.cellsOf f.type) with
      | some q => kindAt P f q.type (i - q.offset)
      | none => none
    | some (.array n e) => if i < n * P.cellsOf e ∧ 0 < P.cellsOf e then kindAt P f e (i % P.cellsOf e) else none
    | _ => none
theorem at_part {cs : List Value} {off c i : Nat} {v : Value} (h : ((cs.drop off).take c)[i]? = some v) : cs[off + i]? = some v := by
  rw [List.getElem?_take] at h
  split at h
  · rw [List.getElem?_drop] at h; exact h
  · cases h
section
variable {H : Type} {enc : TypeId × Value → H} {P : Program} {w : World} {base : Nat} {sp : Nat → Bool} {held : Bool}
theorem kind_of : ∀ (m : Nat) {n : Nat} {t : TypeId} {cs : List Value} {x : DataW H × List MemPlace} (i : Nat) (k : CK), DataW.trod enc P w base sp held n t cs = some x → kindAt P m t i = some k → ∃ v, cs[i]? = some v ∧ k.ok v
  | 0, n, t, cs, x, i, k, h, hk => by simp [kindAt] at hk
  | m + 1, n, t, cs, x, i, k, h, hk => by
    unfold kindAt at hk
    split at hk
    · rename_i ht
      split at hk
      · rename_i hi; subst hi
        injection hk with hk; subst hk
        obtain ⟨b, rfl, _⟩ := DataW.trod_bool ht h
        exact ⟨_, rfl, b, rfl⟩
      · cases hk
    · rename_i kk ht
      split at hk
      · rename_i hi; subst hi
        injection hk with hk; subst hk
        obtain ⟨z, rfl, _, hz⟩ := DataW.trod_int ht h
        exact ⟨_, rfl, z, rfl, hz⟩
      · cases hk
    · rename_i fs ht
      split at hk
      · rename_i q hq
        obtain ⟨xs, q', rfl, rfl, hl, hx, hf⟩ := DataW.trod_struct ht h
        have hmem := List.mem_of_find?_eq_some hq
        have hcond := List.find?_some hq
        simp only [Bool.and_eq_true, decide_eq_true_eq] at hcond
        obtain ⟨j, hj⟩ := List.getElem?_of_mem hmem
        have hj' : fs[j]? = some q := by rw [← hj]; simp
        have hjl : j < xs.length := by
          rw [hx]
          exact (Array.getElem?_eq_some_iff.1 hj').1
        have f0 := hf j q hj'
        rw [List.getElem?_eq_getElem hjl] at f0
        obtain ⟨v, hv, hok⟩ := kind_of m (i - q.offset) k f0 hk
        have := at_part hv
        rw [show q.offset + (i - q.offset) = i by omega] at this
        exact ⟨v, this, hok⟩
      · cases hk
    · rename_i n' e ht
      split at hk
      · rename_i hi
        cases n with
        | zero => simp [DataW.trod] at h
        | succ n =>
        unfold DataW.trod at h
        rw [ht] at h
        simp only [] at h
        split at h
        · rename_i hl
          obtain ⟨xs, hm, _⟩ := Option.map_eq_some_iff.1 h
          have hq : i / P.cellsOf e < n' := by
            rw [Nat.div_lt_iff_lt_mul hi.2]; exact hi.1
          have hr : (List.range n')[i / P.cellsOf e]? = some (i / P.cellsOf e) := by
            rw [List.getElem?_range hq]
          obtain ⟨y, _, hy⟩ := Lib.mapM_at hm _ _ hr
          obtain ⟨v, hv, hok⟩ := kind_of m (i % P.cellsOf e) k hy hk
          have := at_part hv
          rw [show i / P.cellsOf e * P.cellsOf e + i % P.cellsOf e = i by rw [Nat.mul_comm]; exact Nat.div_add_mod i (P.cellsOf e)] at this
          exact ⟨v, this, hok⟩
        · cases h
      · cases hk
    · cases hk
end
def intC (cs : List Value) (i : Nat) : Int := match cs[i]? with
  | some (.int _ z) => z
  | _ => 0
def boolC (cs : List Value) (i : Nat) : Bool := match cs[i]? with
  | some (.bool z) => z
  | _ => false
def PV.of (cs : List Value) : PV := { pid := intC cs 0, par := intC cs 1, st := intC cs 2, R := fun k => intC cs (3 + k), pc := intC cs 19, pt := fun k => (boolC cs (20 + 3 * k), boolC cs (21 + 3 * k), intC cs (22 + 3 * k)), fd := fun k => (intC cs (68 + 3 * k), intC cs (69 + 3 * k), intC cs (70 + 3 * k)), mask := boolC cs 92, code := intC cs 93, why := intC cs 94, n := intC cs 95 }
/-- the kinds of a process's cells; those that are told in decimals are marked -/
inductive YK where
  | y
  | k (c : CK)
def YK.ck : YK → CK
  | .y => .i .i64
  | .k c => c
def YK.lv (o : Obj) (cs : List Value) (i : Nat) : YK → LV
  | .y => yv o (intC cs i)
  | .k (.i c) => .v (.int c (intC cs i))
  | .k .b => .bs (boolC cs i)
def procK : List YK := [.y, .y, .y] ++ List.replicate 17 (.k (.i .u32)) ++ (List.replicate 16 [.k .b, .k .b, .k (.i .i64)]).flatten ++ List.replicate 24 (.k (.i .i64)) ++ [.k .b, .k (.i .u32), .y, .k (.i .u64)]
theorem procK_len : procK.length = 96 := by rfl
theorem procK_is : (List.range 96).map (fun i => kindAt Tryz.prog 6 77 i) = procK.map (fun k => some k.ck) := by kernel_rfl
theorem cY_is (o : Obj) (cs : List Value) : (PV.of cs).cY o = procK.zipIdx.map fun p => p.1.lv o cs p.2 := by rfl
end Go.Proofs.Aw
namespace Go.Proofs.Aw
open Go Go.Proofs Go.RowKit Go.Deep
set_option maxHeartbeats 4000000
set_option maxRecDepth 100000
section
variable {H : Type} {enc : TypeId × Value → H} {w : World} {base : Nat} {sp : Nat → Bool} {held : Bool}
theorem i64_wf {z : Int} (h : (Lit.int .i64 z).wf = true) : i64R z := by
  simp only [Lit.wf, Bool.and_eq_true, decide_eq_true_eq] at h
  exact ⟨h.1, h.2⟩
theorem u64_wf {z : Int} (h : (Lit.int .u64 z).wf = true) : u64R z := by
  simp only [Lit.wf, Bool.and_eq_true, decide_eq_true_eq] at h
  have h1 : (0 : Int) ≤ z := h.1
  have h2 : z ≤ 18446744073709551615 := h.2
  exact ⟨h1, by omega⟩
theorem procK_at {i : Nat} {k : YK} (h : procK[i]? = some k) : kindAt Tryz.prog 6 77 i = some k.ck := by
  have hi : i < 96 := by have := (List.getElem?_eq_some_iff.1 h).1; rw [procK_len] at this; exact this
  have e := congrArg (fun l => l[i]?) procK_is
  simp only [List.getElem?_map, List.getElem?_range hi, h, Option.map_some] at e
  exact Option.some.inj e
theorem rep_proc {o : Obj} (hG : w.heap[1]? = some o) {n : Nat} {cs : List Value} {x : DataW H × List MemPlace} (hl : cs.length = 96) (h : DataW.trod enc Tryz.prog w base sp held n 77 cs = some x) : RepL (Me.of w) 0 ((PV.of cs).cY o) cs ∧ ∀ u ∈ cs, u.oneCell' = true := by
  have cell : ∀ i y, cs[i]? = some y → ∃ k : YK, procK[i]? = some k ∧ Rep (Me.of w) 0 (k.lv o cs i) y ∧ y.oneCell' = true := by
    intro i y hy
    have hi : i < procK.length := by rw [procK_len, ← hl]; exact (List.getElem?_eq_some_iff.1 hy).1
    have hk : procK[i]? = some procK[i] := List.getElem?_eq_getElem hi
    obtain ⟨v, hv, hok⟩ := kind_of 6 i _ h (procK_at hk)
    obtain rfl : y = v := Option.some.inj (hy.symm.trans hv)
    refine ⟨_, hk, ?_⟩
    generalize procK[i] = k at hok
    match k, hok with
    | .y, ⟨z, hz, _⟩ =>
      subst hz
      have e : intC cs i = z := by unfold intC; rw [hv]
      exact ⟨⟨by rw [e], hG, fun h => h.elim⟩, rfl⟩
    | .k (.i c), ⟨z, hz, _⟩ =>
      subst hz
      have e : intC cs i = z := by unfold intC; rw [hv]
      exact ⟨by show _ = _; rw [e], rfl⟩
    | .k .b, ⟨z, hz⟩ =>
      subst hz
      have e : boolC cs i = z := by unfold boolC; rw [hv]
      exact ⟨by show _ = _; rw [e], rfl⟩
  refine ⟨?_, fun u hu => ?_⟩
  · rw [cY_is]
    refine RepL.mk (by rw [List.length_map, List.length_zipIdx, procK_len, hl]) fun i a y ha hy => ?_
    obtain ⟨k, hk, hr, _⟩ := cell i y hy
    rw [List.getElem?_map, List.getElem?_zipIdx, hk] at ha
    simp only [Option.map_some, Option.some.injEq, Nat.zero_add] at ha
    subst ha
    exact hr
  · obtain ⟨i, hi⟩ := List.getElem?_of_mem hu
    exact (cell i u hi).choose_spec.2.2
theorem ty_proc {n : Nat} {cs : List Value} {x : DataW H × List MemPlace} (h : DataW.trod enc Tryz.prog w base sp held n 77 cs = some x) : TyP (PV.of cs) := by
  have i64 : ∀ i, kindAt Tryz.prog 6 77 i = some (.i .i64) → i64R (intC cs i) := fun i hk => by
    obtain ⟨v, hv, z, rfl, hz⟩ := kind_of 6 i _ h hk
    have e : intC cs i = z := by unfold intC; rw [hv]
    rw [e]; exact i64_wf hz
  have u64 : ∀ i, kindAt Tryz.prog 6 77 i = some (.i .u64) → u64R (intC cs i) := fun i hk => by
    obtain ⟨v, hv, z, rfl, hz⟩ := kind_of 6 i _ h hk
    have e : intC cs i = z := by unfold intC; rw [hv]
    rw [e]; exact u64_wf hz
  exact ⟨i64 0 (procK_at (k := .y) rfl), i64 1 (procK_at (k := .y) rfl), i64 2 (procK_at (k := .y) rfl), i64 94 (procK_at (k := .y) rfl), u64 95 (procK_at (k := .k (.i .u64)) rfl)⟩
/-- the ranges of a process's other numbers -/
structure TyQ (p : PV) : Prop where
  R : ∀ k, k < 16 → 0 ≤ p.R k ∧ p.R k < 4294967296
  pc : 0 ≤ p.pc ∧ p.pc < 4294967296
  code : 0 ≤ p.code ∧ p.code < 4294967296
  fd : ∀ k, k < 8 → i64R (p.fd k).2.1 ∧ i64R (p.fd k).2.2
theorem u32_wf {z : Int} (h : (Lit.int .u32 z).wf = true) : 0 ≤ z ∧ z < 4294967296 := by
  simp only [Lit.wf, Bool.and_eq_true, decide_eq_true_eq] at h
  have h1 : (0 : Int) ≤ z := h.1
  have h2 : z ≤ 4294967295 := h.2
  exact ⟨h1, by omega⟩
theorem ty_procQ {n : Nat} {cs : List Value} {x : DataW H × List MemPlace} (h : DataW.trod enc Tryz.prog w base sp held n 77 cs = some x) : TyQ (PV.of cs) := by
  have i64 : ∀ i, kindAt Tryz.prog 6 77 i = some (.i .i64) → i64R (intC cs i) := fun i hk => by
    obtain ⟨v, hv, z, rfl, hz⟩ := kind_of 6 i _ h hk
    have e : intC cs i = z := by unfold intC; rw [hv]
    rw [e]; exact i64_wf hz
  have u32 : ∀ i, kindAt Tryz.prog 6 77 i = some (.i .u32) → 0 ≤ intC cs i ∧ intC cs i < 4294967296 := fun i hk => by
    obtain ⟨v, hv, z, rfl, hz⟩ := kind_of 6 i _ h hk
    have e : intC cs i = z := by unfold intC; rw [hv]
    rw [e]; exact u32_wf hz
  have r := fun k (hk : procK[3 + k]? = some (.k (.i .u32))) => u32 (3 + k) (procK_at hk)
  have f := fun k (hk : procK[69 + 3 * k]? = some (.k (.i .i64)) ∧ procK[70 + 3 * k]? = some (.k (.i .i64))) => (⟨i64 (69 + 3 * k) (procK_at hk.1), i64 (70 + 3 * k) (procK_at hk.2)⟩ : i64R (intC cs (69 + 3 * k)) ∧ i64R (intC cs (70 + 3 * k)))
  exact ⟨below16 ⟨r 0 rfl, r 1 rfl, r 2 rfl, r 3 rfl, r 4 rfl, r 5 rfl, r 6 rfl, r 7 rfl, r 8 rfl, r 9 rfl, r 10 rfl, r 11 rfl, r 12 rfl, r 13 rfl, r 14 rfl, r 15 rfl⟩, u32 19 (procK_at (k := .k (.i .u32)) rfl), u32 93 (procK_at (k := .k (.i .u32)) rfl), below8 ⟨f 0 ⟨rfl, rfl⟩, f 1 ⟨rfl, rfl⟩, f 2 ⟨rfl, rfl⟩, f 3 ⟨rfl, rfl⟩, f 4 ⟨rfl, rfl⟩, f 5 ⟨rfl, rfl⟩, f 6 ⟨rfl, rfl⟩, f 7 ⟨rfl, rfl⟩⟩⟩
theorem cells77 : Tryz.prog.cellsOf 77 = 96 := by kernel_rfl
theorem cells87 : Tryz.prog.cellsOf 87 = 2 := by kernel_rfl
theorem cells80 : Tryz.prog.cellsOf 80 = 2 := by kernel_rfl
end
end Go.Proofs.Aw
