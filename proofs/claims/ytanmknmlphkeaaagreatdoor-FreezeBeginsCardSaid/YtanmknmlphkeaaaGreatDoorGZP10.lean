/- A PART OF THE PROOF: an abstract run of the loaded code over value trees, and the functions walked by it. No condition of its own. -/
import Derived.Test.YtanmknmlphkeaaaGreatDoorGZP5
import Derived.Test.YtanmknmlphkeaaaGreatDoorZF3
import Derived.Test.YtanmknmlphkeaaaGreatDoorGZG1
import Derived.Test.YtanmknmlphkeaaaGreatDoorZD14
namespace Go.Proofs.Aw
open Go Go.Proofs Go.RowKit
set_option maxHeartbeats 8000000
set_option maxRecDepth 100000
theorem begin_ct {o : Obj} (m : MM) (h0 : m.nF ≤ 400) (h1 : m.nB ≤ 400) (r : List UInt8) (a b : LV) (hOf : Ct Tryz.prog 12 [.agg (m.cY o)] (.agg [a, b, .str r])) : Ct Tryz.prog 19 [.agg (m.cY o)] (shot m.clock m.nF m.nB noneK noneK r) := by
  refine Ct.enter Tryz.tab2Ok ft19 ?_
  refine DrawA.run Tryz.tab2Ok Tryz.mixed [0, 1, 0, 4, 12, 31, 0, 127] [6, 7] rfl ?_
  refine ⟨_, ⟨LV.le.refl _, rfl⟩, ?_⟩
  refine ⟨_, ⟨LV.le.refl _, rfl⟩, ?_⟩
  refine ⟨.agg (m.cY o), ⟨LV.le.refl _, rfl⟩, ?_⟩
  refine ⟨_, Ct.callC hOf rfl (leL.refl _) ⟨LV.le.refl _, rfl⟩, ?_⟩
  refine ⟨_, ⟨LV.le.refl _, rfl⟩, ?_⟩
  refine ⟨_, ⟨LV.le.refl _, rfl⟩, ?_⟩
  refine ⟨_, _, ⟨LV.le.refl _, rfl⟩, ?_⟩
  refine ⟨_, _, ⟨LV.le.refl _, rfl⟩, ?_⟩
  refine ⟨⟨⟨True.intro, ⟨LV.le.refl _, rfl⟩, True.intro⟩, ⟨True.intro, ⟨LV.le.refl _, rfl⟩, True.intro⟩, ⟨True.intro, ⟨LV.le.refl _, rfl⟩, True.intro⟩, ⟨True.intro, Ct.callC hOf rfl (leL.refl _) ⟨LV.le.refl _, rfl⟩, True.intro⟩, ⟨True.intro, ⟨LV.le.refl _, rfl⟩, True.intro⟩, ⟨True.intro, ⟨LV.le.refl _, rfl⟩, True.intro⟩, True.intro⟩, ?_⟩
  refine Ct.callC (begin_both m.clock m.nF m.nB r h0 h1) rfl ⟨_, _, rfl, LV.le.refl _, _, _, rfl, LV.le.refl _, _, _, rfl, LV.le.refl _, _, _, rfl, LV.le.agg ⟨_, _, rfl, LV.le.refl _, _, _, rfl, LV.le.any _, _, _, rfl, LV.le.any _, _, _, rfl, LV.le.refl _, rfl⟩, rfl⟩ ?_
  exact ⟨LV.le.refl _, rfl⟩
theorem rbegin_ct (m : MM) (h0 : m.nF ≤ 400) (h1 : m.nB ≤ 400) (r : List UInt8) (a b : LV) (hOf : Ct Tryz.prog 57 [.agg m.c] (.agg [a, b, .str r])) : Ct Tryz.prog 20 [.agg m.c] (shot m.clock m.nF m.nB noneK noneK r) := by
  refine Ct.enter Tryz.tab2Ok ft20 ?_
  refine DrawA.run Tryz.tab2Ok Tryz.mixed [0, 1, 0, 4, 12, 28, 0, 64, 192, 448, 960, 0, 2048, 6144, 16383, 32767] [15] rfl ?_
  refine ⟨_, ⟨LV.le.refl _, rfl⟩, ?_⟩
  refine ⟨_, ⟨LV.le.refl _, rfl⟩, ?_⟩
  refine ⟨_, ⟨LV.le.refl _, rfl⟩, ?_⟩
  refine ⟨_, ⟨LV.le.refl _, rfl⟩, ?_⟩
  refine ⟨_, ⟨LV.le.refl _, rfl⟩, ?_⟩
  refine ⟨.sl 2 m.nF (kv noneK), ⟨⟨by omega, by omega, by show 24 * (m.nF : Int) ≤ _; omega, by omega⟩, .inr ⟨LV.le.slL rfl fun i hi => ⟨_, _, rfl, LV.le.bs false, leL.refl _⟩, rfl⟩⟩, ?_⟩
  refine ⟨_, ⟨LV.le.refl _, rfl⟩, ?_⟩
  refine ⟨_, ⟨LV.le.refl _, rfl⟩, ?_⟩
  refine ⟨_, ⟨LV.le.refl _, rfl⟩, ?_⟩
  refine ⟨_, ⟨LV.le.refl _, rfl⟩, ?_⟩
  refine ⟨.sl 2 m.nB (kv noneK), ⟨⟨by omega, by omega, by show 24 * (m.nB : Int) ≤ _; omega, by omega⟩, .inr ⟨LV.le.slL rfl fun i hi => ⟨_, _, rfl, LV.le.bs false, leL.refl _⟩, rfl⟩⟩, ?_⟩
  refine ⟨.agg m.c, ⟨LV.le.refl _, rfl⟩, ?_⟩
  refine ⟨_, Ct.callC hOf rfl (leL.refl _) ⟨LV.le.refl _, rfl⟩, ?_⟩
  refine ⟨_, ⟨LV.le.refl _, rfl⟩, ?_⟩
  refine ⟨_, ⟨LV.le.refl _, rfl⟩, ?_⟩
  refine ⟨_, _, ⟨LV.le.refl _, rfl⟩, ?_⟩
  refine ⟨True.intro, ?_⟩
  exact ⟨LV.le.refl _, rfl⟩
theorem cnt_none (n0 : Nat) : ∀ n, cnt (catK n0 noneK noneK) n = n
  | 0 => rfl
  | n + 1 => by
    have ih := cnt_none n0 n
    have e : (catK n0 noneK noneK n).1 = false := by unfold catK noneK; split <;> rfl
    simp only [cnt, e, ih]; rfl
def BigM (m : MM) (n0 n1 : Nat) : Prop := m.nF > 70 ∨ m.nB > 260 ∨ n0 > 70 ∨ n1 > 260 ∨ m.nP > 10 ∨ m.nW > 80 ∨ m.nD > 40
theorem greatM_ct {o : Obj} (m : MM) (c : Int) (n0 n1 : Nat) (k0 k1 : KL) (r : List UInt8) (v : Int) (hy : BigM m n0 n1 → v = 1) (hn : ¬ BigM m n0 n1 → v = 0) : Ct Tryz.prog 17 [.agg (m.cY o), shot c n0 n1 k0 k1 r] (.v (.int .i64 v)) := by
  have yes : BigM m n0 n1 → (1 : Int) = v := fun h => (hy h).symm
  refine Ct.enter Tryz.tab2Ok ft17 ?_
  refine ⟨fun h1 => ?_, fun h1 => ⟨fun h2 => ?_, fun h2 => ⟨fun h3 => ?_, fun h3 => ⟨fun h4 => ?_, fun h4 => ⟨fun h5 => ?_, fun h5 => ⟨fun h6 => ?_, fun h6 => ⟨fun h7 => ?_, fun h7 => ?_⟩⟩⟩⟩⟩⟩⟩
  · exact ⟨LV.le.int (yes (.inl (by have := dT h1; omega))), rfl⟩
  · exact ⟨LV.le.int (yes (.inr (.inl (by have := dT h2; omega)))), rfl⟩
  · exact ⟨LV.le.int (yes (.inr (.inr (.inl (by have := dT h3; omega))))), rfl⟩
  · exact ⟨LV.le.int (yes (.inr (.inr (.inr (.inl (by have := dT h4; omega)))))), rfl⟩
  · exact ⟨LV.le.int (yes (.inr (.inr (.inr (.inr (.inl (by have := dT h5; omega))))))), rfl⟩
  · exact ⟨LV.le.int (yes (.inr (.inr (.inr (.inr (.inr (.inl (by have := dT h6; omega)))))))), rfl⟩
  · exact ⟨LV.le.int (yes (.inr (.inr (.inr (.inr (.inr (.inr (by have := dT h7; omega)))))))), rfl⟩
  · refine ⟨LV.le.int (hn ?_).symm, rfl⟩
    have a1 := dF h1; have a2 := dF h2; have a3 := dF h3; have a4 := dF h4; have a5 := dF h5; have a6 := dF h6; have a7 := dF h7
    unfold BigM
    omega
end Go.Proofs.Aw
namespace Go.Proofs.Aw
open Go Go.Proofs Go.RowKit Go.Deep
set_option maxHeartbeats 4000000
set_option maxRecDepth 100000
/-! ### a value without pointers, cell by cell -/
inductive CK where
  | i (k : IntKind)
  | b
def CK.ok : CK → Value → Prop
  | .i k, v => ∃ z, v = .int k z ∧ (Lit.int k z).wf = true
  | .b, v => ∃ x, v = .bool x
def kindAt (P : Program) : Nat → TypeId → Nat → Option CK
  | 0, _, _ => none
  | f + 1, t, i => match P.underlying t with
    | some .bool => if i = 0 then some .b else none
    | some (.int k) => if i = 0 then some (.i k) else none
    | some (.struct fs) => match fs.toList.find? fun f => decide (f.offset ≤ i) && decide (i < f.offset + P.cellsOf f.type) with
      | some q => kindAt P f q.type (i - q.offset)
      | none => none
    | some (.array n e) => if i < n * P.cellsOf e ∧ 0 < P.cellsOf e then kindAt P f e (i % P.cellsOf e) else none
    | _ => none
theorem at_part {cs : List Value} {off c i : Nat} {v : Value} (h : ((cs.drop off).take c)[i]? = some v) : cs[off + i]? = some v := by
  rw [List.getElem?_take] at h
  split at h
  · rw [List.getElem?_drop] at h; exact h
  · cases h
section
variable {H : Type} {enc : TypeId × Value → H} {P : Program} {w : World} {base : Nat} {sp : Nat → Bool} {held : Bool}
theorem kind_of : ∀ (m : Nat) {n : Nat} {t : TypeId} {cs : List Value} {x : DataW H × List MemPlace} (i : Nat) (k : CK), DataW.trod enc P w base sp held n t cs = some x → kindAt P m t i = some k → ∃ v, cs[i]? = some v ∧ k.ok v
  | 0, n, t, cs, x, i, k, h, hk => by simp [kindAt] at hk
  | m + 1, n, t, cs, x, i, k, h, hk => by
    unfold kindAt at hk
    split at hk
    · rename_i ht
      split at hk
      · rename_i hi; subst hi
        injection hk with hk; subst hk
        obtain ⟨b, rfl, _⟩ := DataW.trod_bool ht h
        exact ⟨_, rfl, b, rfl⟩
      · cases hk
    · rename_i kk ht
      split at hk
      · rename_i hi; subst hi
        injection hk with hk; subst hk
        obtain ⟨z, rfl, _, hz⟩ := DataW.trod_int ht h
        exact ⟨_, rfl, z, rfl, hz⟩
      · cases hk
    · rename_i fs ht
      split at hk
      · rename_i q hq
        obtain ⟨xs, q', rfl, rfl, hl, hx, hf⟩ := DataW.trod_struct ht h
        have hmem := List.mem_of_find?_eq_some hq
        have hcond := List.find?_some hq
        simp only [Bool.and_eq_true, decide_eq_true_eq] at hcond
        obtain ⟨j, hj⟩ := List.getElem?_of_mem hmem
        have hj' : fs[j]? = some q := by rw [← hj]; simp
        have hjl : j < xs.length := by
          rw [hx]
          exact (Array.getElem?_eq_some_iff.1 hj').1
        have f0 := hf j q hj'
        rw [List.getElem?_eq_getElem hjl] at f0
        obtain ⟨v, hv, hok⟩ := kind_of m (i - q.offset) k f0 hk
        have := at_part hv
        rw [show q.offset + (i - q.offset) = i by omega] at this
        exact ⟨v, this, hok⟩
      · cases hk
    · rename_i n' e ht
      split at hk
      · rename_i hi
        cases n with
        | zero => simp [DataW.trod] at h
        | succ n =>
        unfold DataW.trod at h
        rw [ht] at h
        simp only [] at h
        split at h
        · rename_i hl
          obtain ⟨xs, hm, _⟩ := Option.map_eq_some_iff.1 h
          have hq : i / P.cellsOf e < n' := by
            rw [Nat.div_lt_iff_lt_mul hi.2]; exact hi.1
          have hr : (List.range n')[i / P.cellsOf e]? = some (i / P.cellsOf e) := by
            rw [List.getElem?_range hq]
          obtain ⟨y, _, hy⟩ := Lib.mapM_at hm _ _ hr
          obtain ⟨v, hv, hok⟩ := kind_of m (i % P.cellsOf e) k hy hk
          have := at_part hv
          rw [show i / P.cellsOf e * P.cellsOf e + i % P.cellsOf e = i by rw [Nat.mul_comm]; exact Nat.div_add_mod i (P.cellsOf e)] at this
          exact ⟨v, this, hok⟩
        · cases h
      · cases hk
    · cases hk
end
def intC (cs : List Value) (i : Nat) : Int := match cs[i]? with
  | some (.int _ z) => z
  | _ => 0
def boolC (cs : List Value) (i : Nat) : Bool := match cs[i]? with
  | some (.bool z) => z
  | _ => false
def PV.of (cs : List Value) : PV := { pid := intC cs 0, par := intC cs 1, st := intC cs 2, R := fun k => intC cs (3 + k), pc := intC cs 19, pt := fun k => (boolC cs (20 + 3 * k), boolC cs (21 + 3 * k), intC cs (22 + 3 * k)), fd := fun k => (intC cs (68 + 3 * k), intC cs (69 + 3 * k), intC cs (70 + 3 * k)), mask := boolC cs 92, code := intC cs 93, why := intC cs 94, n := intC cs 95 }
/-- the kinds of a process's cells; those that are told in decimals are marked -/
inductive YK where
  | y
  | k (c : CK)
def YK.ck : YK → CK
  | .y => .i .i64
  | .k c => c
def YK.lv (o : Obj) (cs : List Value) (i : Nat) : YK → LV
  | .y => yv o (intC cs i)
  | .k (.i c) => .v (.int c (intC cs i))
  | .k .b => .bs (boolC cs i)
def procK : List YK := [.y, .y, .y] ++ List.replicate 17 (.k (.i .u32)) ++ (List.replicate 16 [.k .b, .k .b, .k (.i .i64)]).flatten ++ List.replicate 24 (.k (.i .i64)) ++ [.k .b, .k (.i .u32), .y, .k (.i .u64)]
theorem procK_len : procK.length = 96 := by rfl
theorem procK_is : (List.range 96).map (fun i => kindAt Tryz.prog 6 77 i) = procK.map (fun k => some k.ck) := by kernel_rfl
theorem cY_is (o : Obj) (cs : List Value) : (PV.of cs).cY o = procK.zipIdx.map fun p => p.1.lv o cs p.2 := by rfl
end Go.Proofs.Aw
namespace Go.Proofs.Aw
open Go Go.Proofs Go.RowKit Go.Deep
set_option maxHeartbeats 4000000
set_option maxRecDepth 100000
section
variable {H : Type} {enc : TypeId × Value → H} {w : World} {base : Nat} {sp : Nat → Bool} {held : Bool}
theorem i64_wf {z : Int} (h : (Lit.int .i64 z).wf = true) : i64R z := by
  simp only [Lit.wf, Bool.and_eq_true, decide_eq_true_eq] at h
  exact ⟨h.1, h.2⟩
theorem u64_wf {z : Int} (h : (Lit.int .u64 z).wf = true) : u64R z := by
  simp only [Lit.wf, Bool.and_eq_true, decide_eq_true_eq] at h
  have h1 : (0 : Int) ≤ z := h.1
  have h2 : z ≤ 18446744073709551615 := h.2
  exact ⟨h1, by omega⟩
theorem procK_at {i : Nat} {k : YK} (h : procK[i]? = some k) : kindAt Tryz.prog 6 77 i = some k.ck := by
  have hi : i < 96 := by have := (List.getElem?_eq_some_iff.1 h).1; rw [procK_len] at this; exact this
  have e := congrArg (fun l => l[i]?) procK_is
  simp only [List.getElem?_map, List.getElem?_range hi, h, Option.map_some] at e
  exact Option.some.inj e
theorem rep_proc {o : Obj} (hG : w.heap[1]? = some o) {n : Nat} {cs : List Value} {x : DataW H × List MemPlace} (hl : cs.length = 96) (h : DataW.trod enc Tryz.prog w base sp held n 77 cs = some x) : RepL (Me.of w) 0 ((PV.of cs).cY o) cs ∧ ∀ u ∈ cs, u.oneCell' = true := by
  have cell : ∀ i y, cs[i]? = some y → ∃ k : YK, procK[i]? = some k ∧ Rep (Me.of w) 0 (k.lv o cs i) y ∧ y.oneCell' = true := by
    intro i y hy
    have hi : i < procK.length := by rw [procK_len, ← hl]; exact (List.getElem?_eq_some_iff.1 hy).1
    have hk : procK[i]? = some procK[i] := List.getElem?_eq_getElem hi
    obtain ⟨v, hv, hok⟩ := kind_of 6 i _ h (procK_at hk)
    obtain rfl : y = v := Option.some.inj (hy.symm.trans hv)
    refine ⟨_, hk, ?_⟩
    generalize procK[i] = k at hok
    match k, hok with
    | .y, ⟨z, hz, _⟩ =>
      subst hz
      have e : intC cs i = z := by unfold intC; rw [hv]
      exact ⟨⟨by rw [e], hG, fun h => h.elim⟩, rfl⟩
    | .k (.i c), ⟨z, hz, _⟩ =>
      subst hz
      have e : intC cs i = z := by unfold intC; rw [hv]
      exact ⟨by show _ = _; rw [e], rfl⟩
    | .k .b, ⟨z, hz⟩ =>
      subst hz
      have e : boolC cs i = z := by unfold boolC; rw [hv]
      exact ⟨by show _ = _; rw [e], rfl⟩
  refine ⟨?_, fun u hu => ?_⟩
  · rw [cY_is]
    refine RepL.mk (by rw [List.length_map, List.length_zipIdx, procK_len, hl]) fun i a y ha hy => ?_
    obtain ⟨k, hk, hr, _⟩ := cell i y hy
    rw [List.getElem?_map, List.getElem?_zipIdx, hk] at ha
    simp only [Option.map_some, Option.some.injEq, Nat.zero_add] at ha
    subst ha
    exact hr
  · obtain ⟨i, hi⟩ := List.getElem?_of_mem hu
    exact (cell i u hi).choose_spec.2.2
theorem ty_proc {n : Nat} {cs : List Value} {x : DataW H × List MemPlace} (h : DataW.trod enc Tryz.prog w base sp held n 77 cs = some x) : TyP (PV.of cs) := by
  have i64 : ∀ i, kindAt Tryz.prog 6 77 i = some (.i .i64) → i64R (intC cs i) := fun i hk => by
    obtain ⟨v, hv, z, rfl, hz⟩ := kind_of 6 i _ h hk
    have e : intC cs i = z := by unfold intC; rw [hv]
    rw [e]; exact i64_wf hz
  have u64 : ∀ i, kindAt Tryz.prog 6 77 i = some (.i .u64) → u64R (intC cs i) := fun i hk => by
    obtain ⟨v, hv, z, rfl, hz⟩ := kind_of 6 i _ h hk
    have e : intC cs i = z := by unfold intC; rw [hv]
    rw [e]; exact u64_wf hz
  exact ⟨i64 0 (procK_at (k := .y) rfl), i64 1 (procK_at (k := .y) rfl), i64 2 (procK_at (k := .y) rfl), i64 94 (procK_at (k := .y) rfl), u64 95 (procK_at (k := .k (.i .u64)) rfl)⟩
/-- the ranges of a process's other numbers -/
structure TyQ (p : PV) : Prop where
  R : ∀ k, k < 16 → 0 ≤ p.R k ∧ p.R k < 4294967296
  pc : 0 ≤ p.pc ∧ p.pc < 4294967296
  code : 0 ≤ p.code ∧ p.code < 4294967296
  fd : ∀ k, k < 8 → i64R (p.fd k).2.1 ∧ i64R (p.fd k).2.2
theorem u32_wf {z : Int} (h : (Lit.int .u32 z).wf = true) : 0 ≤ z ∧ z < 4294967296 := by
  simp only [Lit.wf, Bool.and_eq_true, decide_eq_true_eq] at h
  have h1 : (0 : Int) ≤ z := h.1
  have h2 : z ≤ 4294967295 := h.2
  exact ⟨h1, by omega⟩
theorem ty_procQ {n : Nat} {cs : List Value} {x : DataW H × List MemPlace} (h : DataW.trod enc Tryz.prog w base sp held n 77 cs = some x) : TyQ (PV.of cs) := by
  have i64 : ∀ i, kindAt Tryz.prog 6 77 i = some (.i .i64) → i64R (intC cs i) := fun i hk => by
    obtain ⟨v, hv, z, rfl, hz⟩ := kind_of 6 i _ h hk
    have e : intC cs i = z := by unfold intC; rw [hv]
    rw [e]; exact i64_wf hz
  have u32 : ∀ i, kindAt Tryz.prog 6 77 i = some (.i .u32) → 0 ≤ intC cs i ∧ intC cs i < 4294967296 := fun i hk => by
    obtain ⟨v, hv, z, rfl, hz⟩ := kind_of 6 i _ h hk
    have e : intC cs i = z := by unfold intC; rw [hv]
    rw [e]; exact u32_wf hz
  have r := fun k (hk : procK[3 + k]? = some (.k (.i .u32))) => u32 (3 + k) (procK_at hk)
  have f := fun k (hk : procK[69 + 3 * k]? = some (.k (.i .i64)) ∧ procK[70 + 3 * k]? = some (.k (.i .i64))) => (⟨i64 (69 + 3 * k) (procK_at hk.1), i64 (70 + 3 * k) (procK_at hk.2)⟩ : i64R (intC cs (69 + 3 * k)) ∧ i64R (intC cs (70 + 3 * k)))
  exact ⟨below16 ⟨r 0 rfl, r 1 rfl, r 2 rfl, r 3 rfl, r 4 rfl, r 5 rfl, r 6 rfl, r 7 rfl, r 8 rfl, r 9 rfl, r 10 rfl, r 11 rfl, r 12 rfl, r 13 rfl, r 14 rfl, r 15 rfl⟩, u32 19 (procK_at (k := .k (.i .u32)) rfl), u32 93 (procK_at (k := .k (.i .u32)) rfl), below8 ⟨f 0 ⟨rfl, rfl⟩, f 1 ⟨rfl, rfl⟩, f 2 ⟨rfl, rfl⟩, f 3 ⟨rfl, rfl⟩, f 4 ⟨rfl, rfl⟩, f 5 ⟨rfl, rfl⟩, f 6 ⟨rfl, rfl⟩, f 7 ⟨rfl, rfl⟩⟩⟩
theorem cells77 : Tryz.prog.cellsOf 77 = 96 := by kernel_rfl
theorem cells87 : Tryz.prog.cellsOf 87 = 2 := by kernel_rfl
theorem cells80 : Tryz.prog.cellsOf 80 = 2 := by kernel_rfl
theorem open_procs {o : Obj} (hG : w.heap[1]? = some o) {fuel : Nat} {cs : List Value} {x : DataW H × List MemPlace} (h : DataW.trod enc Tryz.prog w base sp held fuel 24 cs = some x) : ∃ (n : Nat) (p : Nat → PV) (y : Value), cs = [y] ∧ Rep (Me.of w) 0 (.sl 96 n (fun i => (p i).cY o)) y ∧ y.oneCell' = true ∧ (∀ i, i < n → TyP (p i)) ∧ ∀ i, i < n → TyQ (p i) := by
  obtain ⟨n, g, A, c, rfl, h1, h2⟩ := open_slE (F := fun cs => (PV.of cs).cY o) Tryz.underlying24 (by rw [cells77]; decide) (fun n cs x hl h => rep_proc hG (by rw [hl, cells77]) h) h
  rw [cells77] at h1
  refine ⟨n, fun i => PV.of (g i), _, rfl, h1, rfl, fun i hi => ?_, fun i hi => ?_⟩
  · obtain ⟨k, x, _, ht⟩ := h2 i hi
    exact ty_proc ht
  · obtain ⟨k, x, _, ht⟩ := h2 i hi
    exact ty_procQ ht
def wrF : List Value → Int × List UInt8
  | [.int _ z, .string s] => (z, s.data.toList)
  | _ => (0, [])
theorem trod_wr {t : TypeId} {f0 f1 : Field} {fs : Array Field} (ht : Tryz.prog.underlying t = some (.struct fs)) (hc : Tryz.prog.cellsOf t = 2) (hs : fs.size = 2) (h0 : fs[0]? = some f0) (h1 : fs[1]? = some f1) (t0 : f0.type = 3 ∧ f0.offset = 0) (t1 : f1.type = 9 ∧ f1.offset = 1)
    {n : Nat} {cs : List Value} {x : DataW H × List MemPlace} (h : DataW.trod enc Tryz.prog w base sp held n t cs = some x) : ∃ z s, cs = [.int .i64 z, .string s] ∧ i64R z := by
  obtain ⟨xs, k, rfl, rfl, hl, hx, hf⟩ := DataW.trod_struct ht h
  rw [hc] at hl
  match cs, hl with
  | [a, b], _ =>
    have g0 := hf 0 f0 h0
    have g1 := hf 1 f1 h1
    rw [t0.1, t0.2, cells3] at g0
    rw [t1.1, t1.2, cells9] at g1
    simp only [List.drop_zero, List.take_succ_cons, List.take_zero, List.drop_succ_cons] at g0 g1
    have hx2 : xs.length = 2 := by rw [hx, hs]
    rw [List.getElem?_eq_getElem (by omega)] at g0 g1
    obtain ⟨z, e0, _, hz⟩ := DataW.trod_int Tryz.underlying3 g0
    obtain ⟨s, e1, _⟩ := DataW.trod_string Tryz.underlying9 g1
    injection e0 with e0
    injection e1 with e1
    subst e0; subst e1
    exact ⟨z, s, rfl, i64_wf hz⟩
theorem open_wrs {o : Obj} (hG : w.heap[1]? = some o) {t e : TypeId} (ht : Tryz.prog.underlying t = some (.slice e)) (hc : Tryz.prog.cellsOf e = 2) (hel : ∀ n cs x, DataW.trod enc Tryz.prog w base sp held n e cs = some x → ∃ z s, cs = [.int .i64 z, .string s] ∧ i64R z) {fuel : Nat} {cs : List Value} {x : DataW H × List MemPlace} (h : DataW.trod enc Tryz.prog w base sp held fuel t cs = some x) : ∃ (n : Nat) (f : Nat → Int × List UInt8) (y : Value), cs = [y] ∧ Rep (Me.of w) 0 (.sl 2 n (wvsY o f)) y ∧ y.oneCell' = true ∧ (∀ i, i < n → i64R (f i).1) ∧ n ≤ 9223372036854775807 := by
  obtain ⟨n, g, A, c, rfl, h1, h2⟩ := open_slE (F := fun cs => wvsY o (fun _ => wrF cs) 0) ht (by rw [hc]; decide) (fun n cs x hl h => by
    obtain ⟨z, s, rfl, _⟩ := hel n cs x h
    exact ⟨⟨_, _, rfl, ⟨rfl, hG, fun h => h.elim⟩, _, _, rfl, strV_of s, rfl⟩, by simp [Value.oneCell']⟩) h
  rw [hc] at h1
  refine ⟨n, fun i => wrF (g i), _, rfl, h1, rfl, fun i hi => ?_, ?_⟩
  · obtain ⟨k, x, _, ht⟩ := h2 i hi
    obtain ⟨z, s, e, hz⟩ := hel k (g i) x ht
    show i64R (wrF (g i)).1
    rw [e]; exact hz
  · obtain ⟨A', c', e, h3, h4, _⟩ := h1
    omega
end
end Go.Proofs.Aw
namespace Go.Proofs.Aw
open Go Go.Proofs Go.RowKit Go.Deep
set_option maxHeartbeats 4000000
set_option maxRecDepth 100000
/-- the ranges of a machine's numbers -/
structure TyR (m : MM) : Prop where
  clock : u64R m.clock
  told : u64R m.told
  quantum : i64R m.quantum
  cur : i64R m.cur
  left : i64R m.left
  next : i64R m.next
  newPipe : i64R m.newPipe
  dleft : i64R m.dleft
  P : ∀ i, i < m.nP → TyP (m.ps i)
  PQ : ∀ i, i < m.nP → TyQ (m.ps i)
  W : ∀ i, i < m.nW → i64R (m.pend i).1
  D : ∀ i, i < m.nD → i64R (m.dirty i).1
  Q : ∀ i, i < m.nQ → i64R (m.pq i).1
  nQ : m.nQ ≤ 9223372036854775807
section
variable {H : Type} {enc : TypeId × Value → H} {w : World} {base : Nat} {sp : Nat → Bool} {held : Bool}
theorem trod_87 (n : Nat) (cs : List Value) (x : DataW H × List MemPlace) (h : DataW.trod enc Tryz.prog w base sp held n 87 cs = some x) : ∃ z s, cs = [.int .i64 z, .string s] ∧ i64R z :=
  trod_wr Tryz.underlying87 cells87 rfl rfl rfl ⟨rfl, rfl⟩ ⟨rfl, rfl⟩ h
theorem trod_80 (n : Nat) (cs : List Value) (x : DataW H × List MemPlace) (h : DataW.trod enc Tryz.prog w base sp held n 80 cs = some x) : ∃ z s, cs = [.int .i64 z, .string s] ∧ i64R z :=
  trod_wr Tryz.underlying80 cells80 rfl rfl rfl ⟨rfl, rfl⟩ ⟨rfl, rfl⟩ h
theorem open_driveM {o : Obj} (hG : w.heap[1]? = some o) {n : Nat} {cs : List Value} {x : DataW H × List MemPlace} (h : DataW.trod enc Tryz.prog w base sp held n 28 cs = some x) : ∃ n0 k0 y0 n1 f y1 z, cs = [y0, y1, .int .i64 z] ∧ Rep (Me.of w) 0 (.sl 1 n0 (tx k0)) y0 ∧ y0.oneCell' = true ∧ Rep (Me.of w) 0 (.sl 2 n1 (wvsY o f)) y1 ∧ y1.oneCell' = true ∧ (∀ i, i < n1 → i64R (f i).1) ∧ i64R z := by
  obtain ⟨xs, q, rfl, rfl, hl, hx, hf⟩ := DataW.trod_struct Tryz.underlying28 h
  rw [cells28] at hl
  match cs, hl with
  | [a0, a1, a2], _ =>
    have hx2 : xs.length = 3 := hx
    have f0 : DataW.trod enc Tryz.prog w base sp held q 23 (([a0, a1, a2].drop 0).take (Tryz.prog.cellsOf 23)) = xs[0]? := hf 0 { name := "Blocks", type := 23, offset := 0, embedded := false, tag := "", pkgPath := "", byteOffset := 0 } rfl
    rw [cells23, List.getElem?_eq_getElem (by omega)] at f0
    replace f0 : DataW.trod enc Tryz.prog w base sp held q 23 [a0] = some xs[0] := f0
    have f1 : DataW.trod enc Tryz.prog w base sp held q 26 (([a0, a1, a2].drop 1).take (Tryz.prog.cellsOf 26)) = xs[1]? := hf 1 { name := "Pending", type := 26, offset := 1, embedded := false, tag := "", pkgPath := "", byteOffset := 24 } rfl
    rw [cells26, List.getElem?_eq_getElem (by omega)] at f1
    replace f1 : DataW.trod enc Tryz.prog w base sp held q 26 [a1] = some xs[1] := f1
    have f2 : DataW.trod enc Tryz.prog w base sp held q 3 (([a0, a1, a2].drop 2).take (Tryz.prog.cellsOf 3)) = xs[2]? := hf 2 { name := "Left", type := 3, offset := 2, embedded := false, tag := "", pkgPath := "", byteOffset := 48 } rfl
    rw [cells3, List.getElem?_eq_getElem (by omega)] at f2
    replace f2 : DataW.trod enc Tryz.prog w base sp held q 3 [a2] = some xs[2] := f2
    obtain ⟨n0, k0, y0, e0, r0, o0⟩ := open_texts f0
    obtain ⟨n1, g1, y1, e1, r1, o1, v1, _⟩ := open_wrs hG Tryz.underlying26 cells87 trod_87 f1
    obtain ⟨z, e2, _, hz⟩ := DataW.trod_int Tryz.underlying3 f2
    injection e0 with e0; injection e1 with e1; injection e2 with e2
    subst e0; subst e1; subst e2
    exact ⟨n0, k0, _, n1, g1, _, z, rfl, r0, o0, r1, o1, v1, i64_wf hz⟩
theorem open_macM {o : Obj} (hG : w.heap[1]? = some o) {n : Nat} {cs : List Value} {x : DataW H × List MemPlace} (h : DataW.trod enc Tryz.prog w base sp held n 30 cs = some x) : ∃ m : MM, TyR m ∧ RepL (Me.of w) 0 (m.cY o) cs ∧ ∀ u ∈ cs, u.oneCell' = true := by
  obtain ⟨xs, q, rfl, rfl, hl, hx, hf⟩ := DataW.trod_struct Tryz.underlying30 h
  rw [cells30] at hl
  match cs, hl with
  | [a0, a1, a2, a3, a4, a5, a6, a7, a8, a9, a10, a11, a12, a13, a14, a15, a16], _ =>
    have hx2 : xs.length = 15 := hx
    have f0 : DataW.trod enc Tryz.prog w base sp held q 22 (([a0, a1, a2, a3, a4, a5, a6, a7, a8, a9, a10, a11, a12, a13, a14, a15, a16].drop 0).take (Tryz.prog.cellsOf 22)) = xs[0]? := hf 0 { name := "Clock", type := 22, offset := 0, embedded := false, tag := "", pkgPath := "", byteOffset := 0 } rfl
    rw [cells22, List.getElem?_eq_getElem (by omega)] at f0
    replace f0 : DataW.trod enc Tryz.prog w base sp held q 22 [a0] = some xs[0] := f0
    have f1 : DataW.trod enc Tryz.prog w base sp held q 3 (([a0, a1, a2, a3, a4, a5, a6, a7, a8, a9, a10, a11, a12, a13, a14, a15, a16].drop 1).take (Tryz.prog.cellsOf 3)) = xs[1]? := hf 1 { name := "Quantum", type := 3, offset := 1, embedded := false, tag := "", pkgPath := "", byteOffset := 8 } rfl
    rw [cells3, List.getElem?_eq_getElem (by omega)] at f1
    replace f1 : DataW.trod enc Tryz.prog w base sp held q 3 [a1] = some xs[1] := f1
    have f2 : DataW.trod enc Tryz.prog w base sp held q 3 (([a0, a1, a2, a3, a4, a5, a6, a7, a8, a9, a10, a11, a12, a13, a14, a15, a16].drop 2).take (Tryz.prog.cellsOf 3)) = xs[2]? := hf 2 { name := "Cur", type := 3, offset := 2, embedded := false, tag := "", pkgPath := "", byteOffset := 16 } rfl
    rw [cells3, List.getElem?_eq_getElem (by omega)] at f2
    replace f2 : DataW.trod enc Tryz.prog w base sp held q 3 [a2] = some xs[2] := f2
    have f3 : DataW.trod enc Tryz.prog w base sp held q 3 (([a0, a1, a2, a3, a4, a5, a6, a7, a8, a9, a10, a11, a12, a13, a14, a15, a16].drop 3).take (Tryz.prog.cellsOf 3)) = xs[3]? := hf 3 { name := "Left", type := 3, offset := 3, embedded := false, tag := "", pkgPath := "", byteOffset := 24 } rfl
    rw [cells3, List.getElem?_eq_getElem (by omega)] at f3
    replace f3 : DataW.trod enc Tryz.prog w base sp held q 3 [a3] = some xs[3] := f3
    have f4 : DataW.trod enc Tryz.prog w base sp held q 23 (([a0, a1, a2, a3, a4, a5, a6, a7, a8, a9, a10, a11, a12, a13, a14, a15, a16].drop 4).take (Tryz.prog.cellsOf 23)) = xs[4]? := hf 4 { name := "Frames", type := 23, offset := 4, embedded := false, tag := "", pkgPath := "", byteOffset := 32 } rfl
    rw [cells23, List.getElem?_eq_getElem (by omega)] at f4
    replace f4 : DataW.trod enc Tryz.prog w base sp held q 23 [a4] = some xs[4] := f4
    have f5 : DataW.trod enc Tryz.prog w base sp held q 24 (([a0, a1, a2, a3, a4, a5, a6, a7, a8, a9, a10, a11, a12, a13, a14, a15, a16].drop 5).take (Tryz.prog.cellsOf 24)) = xs[5]? := hf 5 { name := "Procs", type := 24, offset := 5, embedded := false, tag := "", pkgPath := "", byteOffset := 56 } rfl
    rw [cells24, List.getElem?_eq_getElem (by omega)] at f5
    replace f5 : DataW.trod enc Tryz.prog w base sp held q 24 [a5] = some xs[5] := f5
    have f6 : DataW.trod enc Tryz.prog w base sp held q 3 (([a0, a1, a2, a3, a4, a5, a6, a7, a8, a9, a10, a11, a12, a13, a14, a15, a16].drop 6).take (Tryz.prog.cellsOf 3)) = xs[6]? := hf 6 { name := "Next", type := 3, offset := 6, embedded := false, tag := "", pkgPath := "", byteOffset := 80 } rfl
    rw [cells3, List.getElem?_eq_getElem (by omega)] at f6
    replace f6 : DataW.trod enc Tryz.prog w base sp held q 3 [a6] = some xs[6] := f6
    have f7 : DataW.trod enc Tryz.prog w base sp held q 9 (([a0, a1, a2, a3, a4, a5, a6, a7, a8, a9, a10, a11, a12, a13, a14, a15, a16].drop 7).take (Tryz.prog.cellsOf 9)) = xs[7]? := hf 7 { name := "Init", type := 9, offset := 7, embedded := false, tag := "", pkgPath := "", byteOffset := 88 } rfl
    rw [cells9, List.getElem?_eq_getElem (by omega)] at f7
    replace f7 : DataW.trod enc Tryz.prog w base sp held q 9 [a7] = some xs[7] := f7
    have f8 : DataW.trod enc Tryz.prog w base sp held q 25 (([a0, a1, a2, a3, a4, a5, a6, a7, a8, a9, a10, a11, a12, a13, a14, a15, a16].drop 8).take (Tryz.prog.cellsOf 25)) = xs[8]? := hf 8 { name := "Pipes", type := 25, offset := 8, embedded := false, tag := "", pkgPath := "", byteOffset := 104 } rfl
    rw [cells25, List.getElem?_eq_getElem (by omega)] at f8
    replace f8 : DataW.trod enc Tryz.prog w base sp held q 25 [a8] = some xs[8] := f8
    have f9 : DataW.trod enc Tryz.prog w base sp held q 3 (([a0, a1, a2, a3, a4, a5, a6, a7, a8, a9, a10, a11, a12, a13, a14, a15, a16].drop 9).take (Tryz.prog.cellsOf 3)) = xs[9]? := hf 9 { name := "NewPipe", type := 3, offset := 9, embedded := false, tag := "", pkgPath := "", byteOffset := 128 } rfl
    rw [cells3, List.getElem?_eq_getElem (by omega)] at f9
    replace f9 : DataW.trod enc Tryz.prog w base sp held q 3 [a9] = some xs[9] := f9
    have f10 : DataW.trod enc Tryz.prog w base sp held q 9 (([a0, a1, a2, a3, a4, a5, a6, a7, a8, a9, a10, a11, a12, a13, a14, a15, a16].drop 10).take (Tryz.prog.cellsOf 9)) = xs[10]? := hf 10 { name := "In", type := 9, offset := 10, embedded := false, tag := "", pkgPath := "", byteOffset := 136 } rfl
    rw [cells9, List.getElem?_eq_getElem (by omega)] at f10
    replace f10 : DataW.trod enc Tryz.prog w base sp held q 9 [a10] = some xs[10] := f10
    have f11 : DataW.trod enc Tryz.prog w base sp held q 4 (([a0, a1, a2, a3, a4, a5, a6, a7, a8, a9, a10, a11, a12, a13, a14, a15, a16].drop 11).take (Tryz.prog.cellsOf 4)) = xs[11]? := hf 11 { name := "End", type := 4, offset := 11, embedded := false, tag := "", pkgPath := "", byteOffset := 152 } rfl
    rw [cells4, List.getElem?_eq_getElem (by omega)] at f11
    replace f11 : DataW.trod enc Tryz.prog w base sp held q 4 [a11] = some xs[11] := f11
    have f12 : DataW.trod enc Tryz.prog w base sp held q 22 (([a0, a1, a2, a3, a4, a5, a6, a7, a8, a9, a10, a11, a12, a13, a14, a15, a16].drop 12).take (Tryz.prog.cellsOf 22)) = xs[12]? := hf 12 { name := "Told", type := 22, offset := 12, embedded := false, tag := "", pkgPath := "", byteOffset := 160 } rfl
    rw [cells22, List.getElem?_eq_getElem (by omega)] at f12
    replace f12 : DataW.trod enc Tryz.prog w base sp held q 22 [a12] = some xs[12] := f12
    have f13 : DataW.trod enc Tryz.prog w base sp held q 28 (([a0, a1, a2, a3, a4, a5, a6, a7, a8, a9, a10, a11, a12, a13, a14, a15, a16].drop 13).take (Tryz.prog.cellsOf 28)) = xs[13]? := hf 13 { name := "Drive", type := 28, offset := 13, embedded := false, tag := "", pkgPath := "", byteOffset := 168 } rfl
    rw [cells28, List.getElem?_eq_getElem (by omega)] at f13
    replace f13 : DataW.trod enc Tryz.prog w base sp held q 28 [a13, a14, a15] = some xs[13] := f13
    have f14 : DataW.trod enc Tryz.prog w base sp held q 26 (([a0, a1, a2, a3, a4, a5, a6, a7, a8, a9, a10, a11, a12, a13, a14, a15, a16].drop 16).take (Tryz.prog.cellsOf 26)) = xs[14]? := hf 14 { name := "Dirty", type := 26, offset := 16, embedded := false, tag := "", pkgPath := "", byteOffset := 224 } rfl
    rw [cells26, List.getElem?_eq_getElem (by omega)] at f14
    replace f14 : DataW.trod enc Tryz.prog w base sp held q 26 [a16] = some xs[14] := f14
    obtain ⟨c0, e0, _, h0⟩ := DataW.trod_int Tryz.underlying22 f0
    injection e0 with e0
    subst e0
    obtain ⟨c1, e1, _, h1⟩ := DataW.trod_int Tryz.underlying3 f1
    injection e1 with e1
    subst e1
    obtain ⟨c2, e2, _, h2⟩ := DataW.trod_int Tryz.underlying3 f2
    injection e2 with e2
    subst e2
    obtain ⟨c3, e3, _, h3⟩ := DataW.trod_int Tryz.underlying3 f3
    injection e3 with e3
    subst e3
    obtain ⟨n4, k4, y4, e4, r4, o4⟩ := open_texts f4
    injection e4 with e4
    subst e4
    obtain ⟨n5, p5, y5, e5, r5, o5, v5, w5⟩ := open_procs hG f5
    injection e5 with e5
    subst e5
    obtain ⟨c6, e6, _, h6⟩ := DataW.trod_int Tryz.underlying3 f6
    injection e6 with e6
    subst e6
    obtain ⟨s7, e7, _⟩ := DataW.trod_string Tryz.underlying9 f7
    injection e7 with e7
    subst e7
    obtain ⟨n8, g8, y8, e8, r8, o8, v8, b8⟩ := open_wrs hG Tryz.underlying25 cells80 trod_80 f8
    injection e8 with e8
    subst e8
    obtain ⟨c9, e9, _, h9⟩ := DataW.trod_int Tryz.underlying3 f9
    injection e9 with e9
    subst e9
    obtain ⟨s10, e10, _⟩ := DataW.trod_string Tryz.underlying9 f10
    injection e10 with e10
    subst e10
    obtain ⟨b11, e11, _⟩ := DataW.trod_bool Tryz.underlying4 f11
    injection e11 with e11
    subst e11
    obtain ⟨c12, e12, _, h12⟩ := DataW.trod_int Tryz.underlying22 f12
    injection e12 with e12
    subst e12
    obtain ⟨n13, k13, y13, n14, g14, y14, c15, e13, r13, o13, r14, o14, v14, h15⟩ := open_driveM hG f13
    injection e13 with e13 e14
    injection e14 with e14 e15
    injection e15 with e15 _
    subst e13; subst e14; subst e15
    obtain ⟨n16, g16, y16, e16, r16, o16, v16, _⟩ := open_wrs hG Tryz.underlying26 cells87 trod_87 f14
    injection e16 with e16
    subst e16
    refine ⟨⟨c0, c1, c2, c3, n4, k4, n5, p5, c6, s7.data.toList, n8, g8, c9, s10.data.toList, b11, c12, n13, k13, n14, g14, c15, n16, g16⟩, ⟨u64_wf h0, u64_wf h12, i64_wf h1, i64_wf h2, i64_wf h3, i64_wf h6, i64_wf h9, h15, v5, w5, v14, v16, v8, b8⟩, ?_, ?_⟩
    · exact ⟨_, _, rfl, rfl, _, _, rfl, ⟨rfl, hG, fun h => h.elim⟩, _, _, rfl, ⟨rfl, hG, fun h => h.elim⟩, _, _, rfl, ⟨rfl, hG, fun h => h.elim⟩, _, _, rfl, r4, _, _, rfl, r5, _, _, rfl, ⟨rfl, hG, fun h => h.elim⟩, _, _, rfl, strV_of s7, _, _, rfl, r8, _, _, rfl, ⟨rfl, hG, fun h => h.elim⟩, _, _, rfl, strV_of s10, _, _, rfl, rfl, _, _, rfl, rfl, _, _, rfl, r13, _, _, rfl, r14, _, _, rfl, ⟨rfl, hG, fun h => h.elim⟩, _, _, rfl, r16, rfl⟩
    · intro u hu
      simp only [List.mem_cons, List.not_mem_nil, or_false] at hu
      rcases hu with rfl | rfl | rfl | rfl | rfl | rfl | rfl | rfl | rfl | rfl | rfl | rfl | rfl | rfl | rfl | rfl | rfl <;> first | rfl | assumption
end
end Go.Proofs.Aw
namespace Go.Proofs.Aw
open Go Go.Proofs
set_option maxHeartbeats 4000000
set_option maxRecDepth 100000
open Classical in
theorem chk_ok {m : MM} (h : chkE m = 0) : (∀ i, i < m.nP → RowOk m i) ∧ m.nP ≤ 8 ∧ m.nQ ≤ 64 ∧ (∀ i, i < m.nQ → PipeOk m i) ∧ m.inp.length ≤ 65536 ∧ m.init.length ≤ 128 ∧ diskE m = 0 := by
  unfold chkE at h
  split at h
  · cases h
  split at h
  · cases h
  split at h
  · cases h
  split at h
  · cases h
  rename_i h8
  split at h
  · cases h
  rename_i hr
  split at h
  · cases h
  rename_i hq
  split at h
  · cases h
  rename_i hp
  split at h
  · cases h
  rename_i hi
  exact ⟨not_not.1 hr, by omega, by omega, not_not.1 hp, by omega, by omega, h⟩
open Classical in
theorem disk_ok {m : MM} (h : diskE m = 0) : drvErr m = 0 ∧ m.nD ≤ 32 ∧ ∀ i, i < m.nD → (m.dirty i).2.length = 128 := by
  unfold diskE at h
  split at h
  · rename_i h1; exact absurd h h1
  rename_i h1
  split at h
  · cases h
  split at h
  · cases h
  rename_i hd
  split at h
  · cases h
  rename_i hk
  exact ⟨not_not.1 h1, by omega, fun i hi => (not_not.1 hk i hi).2.2.1⟩
theorem pErr_ok {n : Nat} {f : Nat → Int × List UInt8} : ∀ k, pErr n f k = 0 → ∀ i, i < k → (f i).2.length = 128
  | 0, _, i, hi => absurd hi (by omega)
  | k + 1, h, i, hi => by
    unfold pErr at h
    split at h
    · rename_i h1
      rcases (by omega : i < k ∨ i = k) with h2 | rfl
      · exact pErr_ok k h1 i h2
      · unfold wErr at h
        split at h
        · cases h
        split at h
        · cases h
        · rename_i h3; exact Decidable.not_not.1 h3
    · rename_i h1; exact absurd h h1
open Classical in
theorem drv_ok {m : MM} (h : drvErr m = 0) : m.nB ≤ 256 ∧ ∀ i, i < m.nW → (m.pend i).2.length = 128 := by
  unfold drvErr at h
  split at h
  · cases h
  split at h
  · cases h
  · exact ⟨by omega, pErr_ok _ h⟩
theorem tyM_of {m : MM} (hR : TyR m) (hW : m.nW ≤ 80) (hc : chkE m = 0) : TyM m ∧ ∀ i, i < m.nP → NoPage (m.ps i) := by
  obtain ⟨c1, c2, c3, c4, c5, c6, c7⟩ := chk_ok hc
  obtain ⟨d1, d2, d3⟩ := disk_ok c7
  obtain ⟨d4, d5⟩ := drv_ok d1
  refine ⟨⟨hR.clock, hR.told, hR.quantum, hR.cur, hR.left, hR.next, hR.newPipe, hR.dleft, ⟨by omega, hR.P⟩, ⟨by omega, fun i hi => ⟨hR.W i hi, by rw [d5 i hi]; omega⟩⟩, ⟨by omega, fun i hi => ⟨hR.D i hi, by rw [d3 i hi]; omega⟩⟩, ⟨by omega, fun i hi => ⟨hR.Q i hi, by have := (c4 i hi).2.2.2; omega⟩⟩, by omega, by omega⟩, fun i hi k hk h0 => ?_⟩
  have := ((c1 i hi).2.2.2.2.1 k hk).1 h0
  rw [this.2]; rfl
end Go.Proofs.Aw
namespace Go.Proofs.Aw
open Go Go.Proofs Go.RowKit
set_option maxHeartbeats 8000000
set_option maxRecDepth 100000
theorem catK_cnt (n0 n1 : Nat) : cnt (catK n0 noneK noneK) (n0 + n1) = n0 + n1 := cnt_none n0 _
/-- the shot of a machine is the document's, and so is how much of any shot is left -/
theorem begins_ct {o : Obj} (ho : PowO o) (m : MM) (hR : TyR m) (c : Int) (n0 n1 : Nat) (k0 k1 : KL) (r : List UInt8) : Ct Tryz.prog 4 [.agg (m.cY o), shot c n0 n1 k0 k1 r] (.v (.bool true)) := by
  refine Ct.enter Tryz.tab2Ok ft4 ?_
  refine Ct.callC alive_ct rfl (leL.refl _) ?_
  by_cases hb : BigM m n0 n1
  · refine Ct.callC (greatM_ct m c n0 n1 k0 k1 r 1 (fun _ => rfl) (fun h => absurd hb h)) rfl (leL.refl _) ?_
    refine ⟨fun _ => ?_, fun h => absurd h (by decide)⟩
    exact ⟨LV.le.refl _, rfl⟩
  refine Ct.callC (greatM_ct m c n0 n1 k0 k1 r 0 (fun h => absurd h hb) (fun _ => rfl)) rfl (leL.refl _) ?_
  refine ⟨fun h => absurd h (by decide), fun _ => ?_⟩
  have hF : m.nF ≤ 70 ∧ m.nB ≤ 260 ∧ n0 ≤ 70 ∧ n1 ≤ 260 ∧ m.nP ≤ 10 ∧ m.nW ≤ 80 ∧ m.nD ≤ 40 := by unfold BigM at hb; omega
  obtain ⟨q1, q2, q3, q4, q5, q6, q7⟩ := hF
  have hm : Fits m := ⟨by omega, by omega, hR.nQ, by omega, by omega, by omega⟩
  obtain ⟨rr, g1, g2⟩ : ∃ rr, Ct Tryz.prog 19 [.agg (m.cY o)] (shot m.clock m.nF m.nB noneK noneK rr) ∧ Ct Tryz.prog 20 [.agg m.c] (shot m.clock m.nF m.nB noneK noneK rr) := by
    by_cases hc : chkE m = 0
    · obtain ⟨hT, hN⟩ := tyM_of hR q6 hc
      exact ⟨restB m, begin_ct m (by omega) (by omega) _ _ _ (gof_ok ho m hm hT hN hc), rbegin_ct m (by omega) (by omega) _ _ _ (rof_ok m hm hT hc)⟩
    · exact ⟨[], begin_ct m (by omega) (by omega) _ _ _ (gof_bad o m hm hc), rbegin_ct m (by omega) (by omega) _ _ _ (rof_bad m hm hc)⟩
  clear hb hm
  refine DrawA.run Tryz.tab2Ok Tryz.mixed [0, 1, 0, 7, 15, 31, 63, 127, 63, 511, 1023, 2047, 4095, 8191, 16383, 32767, 8191, 73727, 204799, 8191, 532479, 1581055, 3678207, 8331263, 16777215, 33554431, 67108863] [] rfl ?_
  refine ⟨.agg (m.cY o), ⟨LV.le.refl _, rfl⟩, ?_⟩
  refine ⟨_, Ct.callC g1 rfl (leL.refl _) ⟨LV.le.refl _, rfl⟩, ?_⟩
  refine ⟨.agg (m.cY o), ⟨LV.le.refl _, rfl⟩, ?_⟩
  refine ⟨_, Ct.callC g2 rfl ⟨_, _, rfl, m.aY_le o, rfl⟩ ⟨LV.le.refl _, rfl⟩, ?_⟩
  refine ⟨_, Ct.callC (same_ct m.clock m.nF m.nB noneK noneK noneK noneK rr (by omega) (by omega) (fun _ _ => rfl) (fun _ _ => rfl)) rfl (leL.refl _) ⟨LV.le.refl _, rfl⟩, ?_⟩
  refine ⟨_, ⟨LV.le.refl _, rfl⟩, ?_⟩
  refine ⟨shot c n0 n1 k0 k1 r, ⟨LV.le.refl _, rfl⟩, ?_⟩
  refine ⟨_, Ct.callC (left_ct c n0 n1 k0 k1 r (by omega) (by omega)) rfl (leL.refl _) ⟨LV.le.refl _, rfl⟩, ?_⟩
  refine ⟨shot c n0 n1 k0 k1 r, ⟨LV.le.refl _, rfl⟩, ?_⟩
  refine ⟨_, Ct.callC (rLeft_ct c n0 n1 k0 k1 r (by omega) (by omega)) rfl (leL.refl _) ⟨LV.le.refl _, rfl⟩, ?_⟩
  refine ⟨.v (.bool true), ⟨LV.le.bsV (decide_eq_true rfl), rfl⟩, ?_⟩
  refine ⟨_, ⟨LV.le.refl _, rfl⟩, ?_⟩
  refine ⟨_, ⟨LV.le.refl _, rfl⟩, ?_⟩
  refine ⟨.agg (m.cY o), ⟨LV.le.refl _, rfl⟩, ?_⟩
  refine ⟨_, Ct.callC g1 rfl (leL.refl _) ⟨LV.le.refl _, rfl⟩, ?_⟩
  refine ⟨iv ((m.nF + m.nB : Nat) : Int), Ct.callC (left_ct m.clock m.nF m.nB noneK noneK rr (by omega) (by omega)) rfl (leL.refl _) ⟨LV.le.int (by rw [catK_cnt]), rfl⟩, ?_⟩
  refine ⟨_, ⟨LV.le.refl _, rfl⟩, ?_⟩
  refine ⟨_, ⟨LV.le.refl _, rfl⟩, ?_⟩
  refine ⟨_, ⟨LV.le.refl _, rfl⟩, ?_⟩
  refine ⟨_, ⟨LV.le.refl _, rfl⟩, ?_⟩
  refine ⟨_, ⟨LV.le.refl _, rfl⟩, ?_⟩
  refine ⟨_, ⟨LV.le.refl _, rfl⟩, ?_⟩
  refine ⟨_, ⟨LV.le.refl _, rfl⟩, ?_⟩
  refine ⟨iv ((m.nF + m.nB : Nat) : Int), ⟨LV.le.int (by rw [w64 (by omega) (by omega)]; omega), rfl⟩, ?_⟩
  refine ⟨.v (.bool true), ⟨LV.le.bsV (decide_eq_true rfl), rfl⟩, ?_⟩
  refine ⟨_, ⟨LV.le.refl _, rfl⟩, ?_⟩
  refine ⟨_, ⟨LV.le.refl _, rfl⟩, ?_⟩
  refine ⟨True.intro, ?_⟩
  exact ⟨LV.le.refl _, rfl⟩
end Go.Proofs.Aw
