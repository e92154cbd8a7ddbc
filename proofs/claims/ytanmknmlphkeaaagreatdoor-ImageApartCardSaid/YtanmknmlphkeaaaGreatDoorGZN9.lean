/- A PART OF THE PROOF: an abstract run of the loaded code over value trees, and the functions walked by it. No condition of its own. -/
import Derived.Test.YtanmknmlphkeaaaGreatDoorGZN5
import Derived.Test.YtanmknmlphkeaaaGreatDoorGZP1
import Derived.Test.YtanmknmlphkeaaaGreatDoorGZP2
namespace Go.Proofs.Aw
open Go Go.Proofs Go.RowKit
set_option maxHeartbeats 8000000
set_option maxRecDepth 100000
/-! ### frames that nobody shares: by a map, by counting -/
theorem cntP_mono (p : PV) (x : Int) (k : Nat) : ∀ d, cntP p x k ≤ cntP p x (k + d)
  | 0 => Nat.le_refl _
  | d + 1 => by
    have := cntP_mono p x k d
    show _ ≤ cntP p x (k + d) + _
    omega
theorem usr_mono (m : MM) (x : Int) (i : Nat) : ∀ d, usr m x i ≤ usr m x (i + d)
  | 0 => Nat.le_refl _
  | d + 1 => by
    have := usr_mono m x i d
    show _ ≤ usr m x (i + d) + _
    omega
theorem metN_iff (p : PV) (f : Int → Bool) (x : Int) : ∀ k, metN p f k x = true ↔ f x = true ∨ 0 < cntP p x k
  | 0 => by simp [metN, cntP]
  | k + 1 => by
    have ih := metN_iff p f x k
    simp only [metN, cntP]
    by_cases h : (p.pt k).1 = true
    · rw [if_pos h]
      by_cases e : x = (p.pt k).2.2
      · rw [upB, if_pos e, if_pos ⟨h, e.symm⟩]
        simp
      · rw [upB, if_neg e, if_neg (fun hc => e hc.2.symm), ih]
        simp
    · rw [if_neg h, if_neg (fun hc => h hc.1), ih]
      simp
theorem metA_iff (m : MM) (x : Int) : ∀ i, metA m i x = true ↔ 0 < usr m x i
  | 0 => by simp [metA, usr]
  | i + 1 => by
    simp only [metA, usr]
    rw [metN_iff, metA_iff m x i]
    omega
theorem met_none (m : MM) (i k : Nat) (x : Int) : metN (m.ps i) (metA m i) k x = false ↔ usr m x i + cntP (m.ps i) x k = 0 := by
  have h := metN_iff (m.ps i) (metA m i) x k
  rw [metA_iff] at h
  cases hb : metN (m.ps i) (metA m i) k x with
  | true => rw [hb] at h; have := h.1 rfl; constructor; intro h; cases h; intro; omega
  | false =>
    rw [hb] at h
    refine ⟨fun _ => ?_, fun _ => rfl⟩
    have : ¬ (0 < usr m x i ∨ 0 < cntP (m.ps i) x k) := fun hc => by have := h.2 hc; cases this
    omega
theorem once {m : MM} {x : Int} (N : Nat) (h : ∀ i, i < N → ∀ k, k < 16 → ((m.ps i).pt k).1 = true → ((m.ps i).pt k).2.2 = x → usr m x i + cntP (m.ps i) x k = 0) : ∀ i, i ≤ N → usr m x i ≤ 1 ∧ (i < N → ∀ k, k ≤ 16 → usr m x i + cntP (m.ps i) x k ≤ 1) := by
  have step : ∀ i, i < N → usr m x i ≤ 1 → ∀ k, k ≤ 16 → usr m x i + cntP (m.ps i) x k ≤ 1 := by
    intro i hi h0 k
    induction k with
    | zero => intro _; simpa [cntP] using h0
    | succ k ih =>
      intro hk
      have := ih (by omega)
      simp only [cntP]
      split
      · rename_i hc
        have := h i hi k (by omega) hc.1 hc.2
        omega
      · omega
  intro i
  induction i with
  | zero => intro _; exact ⟨by simp [usr], fun hi => step 0 hi (by simp [usr])⟩
  | succ i ih =>
    intro hi
    have h1 := ih (by omega)
    have h2 := step i (by omega) h1.1 16 (Nat.le_refl _)
    exact ⟨by simpa [usr] using h2, fun hi2 => step (i + 1) hi2 (by simpa [usr] using h2)⟩
theorem frames_iff (m : MM) : (∀ i, i < m.nP → ∀ k, k < 16 → ((m.ps i).pt k).1 = true → metN (m.ps i) (metA m i) k ((m.ps i).pt k).2.2 = false) ↔ ∀ i, i < m.nP → ∀ k, k < 16 → ((m.ps i).pt k).1 = true → usr m ((m.ps i).pt k).2.2 m.nP = 1 := by
  have up : ∀ i, i < m.nP → ∀ k, k < 16 → ((m.ps i).pt k).1 = true → usr m ((m.ps i).pt k).2.2 i + cntP (m.ps i) ((m.ps i).pt k).2.2 k + 1 ≤ usr m ((m.ps i).pt k).2.2 m.nP := by
    intro i hi k hk h
    have h1 := cntP_mono (m.ps i) ((m.ps i).pt k).2.2 (k + 1) (16 - (k + 1))
    rw [show k + 1 + (16 - (k + 1)) = 16 by omega] at h1
    have h2 := usr_mono m ((m.ps i).pt k).2.2 (i + 1) (m.nP - (i + 1))
    rw [show i + 1 + (m.nP - (i + 1)) = m.nP by omega] at h2
    simp only [cntP, usr] at h1 h2
    simp only [h, and_self, if_true] at h1
    omega
  constructor
  · intro h i hi k hk hs
    have h1 := (once (m := m) (x := ((m.ps i).pt k).2.2) m.nP (fun i' hi' k' hk' hs' he => by rw [← he]; exact (met_none m i' k' _).1 (h i' hi' k' hk' hs')) m.nP (Nat.le_refl _)).1
    have := up i hi k hk hs
    omega
  · intro h i hi k hk hs
    rw [met_none]
    have := up i hi k hk hs
    have := h i hi k hk hs
    omega
theorem rows_iff (m : MM) : (∀ i, i < m.nP → RowSt m i) ↔ ∀ i, i < m.nP → RowOk m i := by
  constructor
  · intro h i hi
    have hf := (frames_iff m).1 fun i hi k hk hs => (((h i hi).2.2 k hk).2 hs).2.2.1
    obtain ⟨h1, ⟨h2, h3, h4, h5⟩, h6⟩ := h i hi
    exact ⟨h1, h2, h3, h4, fun k hk => ⟨(h6 k hk).1, fun hs => ⟨((h6 k hk).2 hs).2.2.2, ((h6 k hk).2 hs).1, ((h6 k hk).2 hs).2.1, hf i hi k hk hs⟩⟩, h5⟩
  · intro h i hi
    have hf := (frames_iff m).2 fun i hi k hk hs => (((h i hi).2.2.2.2.1 k hk).2 hs).2.2.2
    obtain ⟨h1, h2, h3, h4, h6, h5⟩ := h i hi
    exact ⟨h1, ⟨h2, h3, h4, h5⟩, fun k hk => ⟨(h6 k hk).1, fun hs => ⟨((h6 k hk).2 hs).2.1, ((h6 k hk).2 hs).2.2.1, hf i hi k hk hs, ((h6 k hk).2 hs).1⟩⟩⟩
open Classical in
theorem check_ct (m : MM) (hm : Fits m) : Ct Tryz.prog 41 [.agg m.c] (iv (chkE m)) := by
  have hF := hm.F
  have hP := hm.P
  refine Ct.enter Tryz.tab2Ok ft41 ?_
  have r2 : ¬ RangeOk m → LV.le (iv 2) (iv (chkE m)) := fun h => LV.le.int (by rw [chkE, if_pos h])
  refine Ct.callC (within_ct m.quantum 1 1000) rfl (leL.refl _) ?_
  refine ⟨fun g0 => ⟨r2 fun hc => dF (nbT g0) ⟨hc.1, hc.2.1⟩, rfl⟩, fun g0 => ?_⟩
  have g0 := dT (nbF g0)
  refine Ct.callC (within_ct m.left 0 m.quantum) rfl (leL.refl _) ?_
  refine ⟨fun g1 => ⟨r2 fun hc => dF (nbT g1) ⟨hc.2.2.1, hc.2.2.2.1⟩, rfl⟩, fun g1 => ?_⟩
  have g1 := dT (nbF g1)
  refine ⟨fun g2 => ⟨r2 fun hc => by have g2 : m.cur < 0 := dT g2; have := hc.2.2.2.2.1; omega, rfl⟩, fun g2 => ?_⟩
  have g2 : ¬ m.cur < 0 := dF g2
  refine Ct.callC (within_ct m.next 1 1000000000) rfl (leL.refl _) ?_
  refine ⟨fun g3 => ⟨r2 fun hc => dF (nbT g3) ⟨hc.2.2.2.2.2.1, hc.2.2.2.2.2.2.1⟩, rfl⟩, fun g3 => ?_⟩
  have g3 := dT (nbF g3)
  refine Ct.callC (within_ct m.newPipe 1 1000000000) rfl (leL.refl _) ?_
  refine ⟨fun g4 => ⟨r2 fun hc => dF (nbT g4) ⟨hc.2.2.2.2.2.2.2.1, hc.2.2.2.2.2.2.2.2⟩, rfl⟩, fun g4 => ?_⟩
  have g4 := dT (nbF g4)
  have e0 : ¬ ¬ RangeOk m := fun hc => hc ⟨g0.1, g0.2, g1.1, g1.2, by omega, g3.1, g3.2, g4.1, g4.2⟩
  refine Ct.callC (within_ct (m.nF : Int) 1 64) rfl (leL.refl _) ?_
  refine ⟨fun a => ?_, fun a => ?_⟩
  · have a := dF (nbT a)
    exact ⟨LV.le.int (by rw [chkE, if_neg e0, if_pos (by omega)]), rfl⟩
  have a := dT (nbF a)
  have e1 : ¬ (m.nF < 1 ∨ 64 < m.nF) := by omega
  refine Ct.callC (anyOdd89_ct m.nF m.fr hF) rfl (leL.refl _) ?_
  refine ⟨fun b => ?_, fun b => ?_⟩
  · obtain ⟨i, hi, hc⟩ := dT b
    exact ⟨LV.le.int (by rw [chkE, if_neg e0, if_neg e1, if_pos fun hall => hc (hall i hi)]), rfl⟩
  have b := dF b
  have e2 : ¬ ¬ ∀ i, i < m.nF → (m.fr i).length = 128 := fun hc => hc fun i hi => by
    by_cases h : (m.fr i).length = 128
    · exact h
    · exact absurd ⟨i, hi, h⟩ b
  refine ⟨fun c => ?_, fun c => ?_⟩
  · have c : (m.nP : Int) > 8 := dT c
    exact ⟨LV.le.int (by rw [chkE, if_neg e0, if_neg e1, if_neg e2, if_pos (by omega)]), rfl⟩
  have c : ¬ (m.nP : Int) > 8 := dF c
  have e3 : ¬ 8 < m.nP := by omega
  refine Ct.callC (procs_ct m hP hm.Q hF ⟨g3.1, g3.2⟩) rfl (leL.refl _) ?_
  refine ⟨fun d => ?_, fun d => ?_⟩
  · exact ⟨LV.le.int (by rw [chkE, if_neg e0, if_neg e1, if_neg e2, if_neg e3, if_pos fun hall => dF (nbT d) ((rows_iff m).2 hall)]), rfl⟩
  have e4 : ¬ ¬ ∀ i, i < m.nP → RowOk m i := fun hc => hc ((rows_iff m).1 (dT (nbF d)))
  refine ⟨fun f => ?_, fun f => ?_⟩
  · have f : (m.nQ : Int) > 64 := dT f
    exact ⟨LV.le.int (by rw [chkE, if_neg e0, if_neg e1, if_neg e2, if_neg e3, if_neg e4, if_pos (by omega)]), rfl⟩
  have f : ¬ (m.nQ : Int) > 64 := dF f
  have e5 : ¬ 64 < m.nQ := by omega
  refine Ct.callC (right_ct m hm.Q ⟨g4.1, g4.2⟩) rfl (leL.refl _) ?_
  refine ⟨fun q => ?_, fun q => ?_⟩
  · exact ⟨LV.le.int (by rw [chkE, if_neg e0, if_neg e1, if_neg e2, if_neg e3, if_neg e4, if_neg e5, if_pos fun hall => dF (nbT q) hall]), rfl⟩
  have e6 : ¬ ¬ ∀ i, i < m.nQ → PipeOk m i := fun hc => hc (dT (nbF q))
  have e : chkE m = if 65536 < m.inp.length ∨ 128 < m.init.length then 6 else diskE m := by rw [chkE, if_neg e0, if_neg e1, if_neg e2, if_neg e3, if_neg e4, if_neg e5, if_neg e6]
  refine ⟨fun a => ?_, fun a => ⟨fun b => ?_, fun b => ?_⟩⟩
  · have a : (m.inp.length : Int) > 65536 := dT a
    exact ⟨LV.le.int (by rw [e, if_pos (by omega)]), rfl⟩
  · have b : (m.init.length : Int) > 128 := dT b
    exact ⟨LV.le.int (by rw [e, if_pos (by omega)]), rfl⟩
  have a : ¬ (m.inp.length : Int) > 65536 := dF a
  have b : ¬ (m.init.length : Int) > 128 := dF b
  refine Ct.callC (disk_ct m hm.B hm.W hm.D) rfl (leL.refl _) ?_
  exact ⟨LV.le.int (by rw [e, if_neg (by omega)]), rfl⟩
end Go.Proofs.Aw
namespace Go.Proofs.Aw
open Go Go.Proofs Go.RowKit
set_option maxHeartbeats 8000000
set_option maxRecDepth 100000
def i64R (x : Int) : Prop := -9223372036854775808 ≤ x ∧ x ≤ 9223372036854775807
/-- a write, or a pipe, as a row -/
def wrB (x : Int × List UInt8) : List UInt8 := rowL [Lib.itoa x.1, x.2]
def wrT (f : Nat → Int × List UInt8) : TL := fun i => wrB (f i)
def wvsY (o : Obj) (f : Nat → Int × List UInt8) (i : Nat) : List LV := [yv o (f i).1, .str (f i).2]
theorem wrB_len (x : Int × List UInt8) (h : i64R x.1) : (wrB x).length ≤ 100 + 2 * x.2.length := by
  have h1 := itoa_len h.1 h.2
  have h2 := lenEnc_len (Lib.itoa x.1).length _ (Nat.le_refl _)
  have h3 := lenEnc_len x.2.length _ (Nat.le_refl _)
  simp only [wrB, rowL, List.length_append, List.length_nil]
  omega
/-- what a list of writes, or pipes, is like, so that its row is reckoned -/
def WsOk (n : Nat) (f : Nat → Int × List UInt8) : Prop := n ≤ 1000 ∧ ∀ i, i < n → i64R (f i).1 ∧ (f i).2.length ≤ 10000
theorem rowN_bound {w : TL} {b : Nat} : ∀ n, (∀ i, i < n → (w i).length ≤ b) → (rowN w n).length ≤ n * (2 * b + 10)
  | 0, _ => by simp [rowN]
  | n + 1, h => by
    have ih := rowN_bound n fun i hi => h i (by omega)
    have h1 := h n (by omega)
    have h2 := lenEnc_len (w n).length _ (Nat.le_refl _)
    simp only [rowN, List.length_append]
    have e : (n + 1) * (2 * b + 10) = n * (2 * b + 10) + (2 * b + 10) := Nat.succ_mul _ _
    omega
theorem WsOk.len {n : Nat} {f : Nat → Int × List UInt8} (h : WsOk n f) : (rowN (wrT f) n).length ≤ 100000000 := by
  have h1 := rowN_bound (w := wrT f) (b := 20100) n fun i hi => by
    have := wrB_len (f i) (h.2 i hi).1
    have := (h.2 i hi).2
    show (wrB (f i)).length ≤ _
    omega
  have h2 := h.1
  omega
theorem gwrite_ct {o : Obj} (ho : PowO o) (x : Int × List UInt8) (h : i64R x.1) (hl : x.2.length ≤ 10000) : Ct Tryz.prog 46 [.agg [yv o x.1, .str x.2]] (.str (wrB x)) := by
  have e4 : rowN (atL [Lib.itoa x.1, x.2]) 2 = wrB x := rowN_list [Lib.itoa x.1, x.2]
  have hb := wrB_len x h
  refine Ct.enter Tryz.tab2Ok ft46 ?_
  refine DrawA.run Tryz.tab2Ok Tryz.mixed [0, 1, 3, 0, 8, 31, 63, 127] [5] rfl ?_
  refine ⟨_, ⟨LV.le.refl _, rfl⟩, ?_⟩
  refine ⟨_, ⟨LV.le.refl _, rfl⟩, ?_⟩
  refine ⟨_, Ct.callC (dec_ct ho x.1 h.1 h.2) rfl (leL.refl _) ⟨LV.le.refl _, rfl⟩, ?_⟩
  refine ⟨_, ⟨LV.le.refl _, rfl⟩, ?_⟩
  refine ⟨_, ⟨LV.le.refl _, rfl⟩, ?_⟩
  refine ⟨_, _, ⟨LV.le.refl _, rfl⟩, ?_⟩
  refine ⟨_, Ct.callF (row_ct 2 (atL [Lib.itoa x.1, x.2]) (by omega) (by rw [e4]; omega)) rfl ⟨_, _, rfl, LV.le.sl rfl fun i hi => ?_, rfl⟩ rfl ⟨LV.le.refl _, rfl⟩, ?_⟩
  · rcases (by omega : i = 0 ∨ i = 1) with rfl | rfl <;> rfl
  refine ⟨_, ⟨LV.le.refl _, rfl⟩, ?_⟩
  refine ⟨True.intro, ?_⟩
  exact ⟨LV.le.eq (congrArg LV.str e4), rfl⟩
theorem gpipe_ct {o : Obj} (ho : PowO o) (x : Int × List UInt8) (h : i64R x.1) (hl : x.2.length ≤ 10000) : Ct Tryz.prog 48 [.agg [yv o x.1, .str x.2]] (.str (wrB x)) := by
  have e4 : rowN (atL [Lib.itoa x.1, x.2]) 2 = wrB x := rowN_list [Lib.itoa x.1, x.2]
  have hb := wrB_len x h
  refine Ct.enter Tryz.tab2Ok ft48 ?_
  refine DrawA.run Tryz.tab2Ok Tryz.mixed [0, 1, 3, 0, 8, 31, 63, 127] [5] rfl ?_
  refine ⟨_, ⟨LV.le.refl _, rfl⟩, ?_⟩
  refine ⟨_, ⟨LV.le.refl _, rfl⟩, ?_⟩
  refine ⟨_, Ct.callC (dec_ct ho x.1 h.1 h.2) rfl (leL.refl _) ⟨LV.le.refl _, rfl⟩, ?_⟩
  refine ⟨_, ⟨LV.le.refl _, rfl⟩, ?_⟩
  refine ⟨_, ⟨LV.le.refl _, rfl⟩, ?_⟩
  refine ⟨_, _, ⟨LV.le.refl _, rfl⟩, ?_⟩
  refine ⟨_, Ct.callF (row_ct 2 (atL [Lib.itoa x.1, x.2]) (by omega) (by rw [e4]; omega)) rfl ⟨_, _, rfl, LV.le.sl rfl fun i hi => ?_, rfl⟩ rfl ⟨LV.le.refl _, rfl⟩, ?_⟩
  · rcases (by omega : i = 0 ∨ i = 1) with rfl | rfl <;> rfl
  refine ⟨_, ⟨LV.le.refl _, rfl⟩, ?_⟩
  refine ⟨True.intro, ?_⟩
  exact ⟨LV.le.eq (congrArg LV.str e4), rfl⟩
theorem gwrites_ct {o : Obj} (ho : PowO o) (n : Nat) (f : Nat → Int × List UInt8) (hf : WsOk n f) : Ct Tryz.prog 45 [.sl 2 n (wvsY o f), .v (.func (.func 46) #[] #[])] (.str (rowN (wrT f) n)) := by
  have hn := hf.1
  refine Ct.enter Tryz.tab2Ok ft45 ?_
  refine ⟨Nat, fun j => ⟨[(10, iv (j : Int)), (9, iv (n : Int)), (8, .sl 2 n (wvsY o f)), (1, .v (.func (.func 46) #[] #[])), (5, .ls 0 j)], [(0, .arr 9 1 j (tx (wrT f)))], 1, 0⟩, fun j => j ≤ n ∧ True, fun j => n - j, 0, ⟨Nat.zero_le _, True.intro⟩, .own (ty := 9) (sz := 1) ⟨rfl, rfl, ⟨.refl _, rfl, .refl _, rfl, .refl _, rfl, .refl _, rfl, .nil, rfl, trivial⟩, ⟨⟨_, rfl, .of (LO.le.arr rfl fun i hi => absurd hi (by omega))⟩, rfl, rfl, trivial⟩⟩, fun j hj => ⟨fun h => ?_, fun h => ?_⟩⟩
  · obtain ⟨hj, hp⟩ := hj
    have h := dT h
    have h : (j : Int) < ((n : Nat) : Int) := h
    have hj : j < n := by omega
    have ej := w1 hj (by omega)
    obtain ⟨hf1, hf2⟩ := hf.2 j (by omega)
    refine ⟨⟨by omega, by omega⟩, ?_⟩
    refine Ct.callC (gwrite_ct ho (f j) hf1 hf2) rfl (leL.refl _) ?_
    exact ⟨by show (j + 1) * 16 ≤ _; omega, by show j + 1 ≤ _; omega, ⟨j + 1, ⟨(by omega : j + 1 ≤ n), True.intro⟩, (by omega : n - (j + 1) < n - j), .ren (a := 0) (b := 3) ⟨rfl, ⟨rfl, rfl, rfl, Nat.le_of_ble_eq_true rfl⟩, ⟨LV.le.int ej, rfl, LV.le.refl _, rfl, LV.le.refl _, rfl, LV.le.refl _, rfl, LV.le.refl _, rfl, trivial⟩, ⟨⟨_, rfl, LO.le.arrL rfl fun i hi => snocL (leL.refl _) i hi⟩, rfl, rfl, trivial⟩⟩⟩⟩
  · obtain ⟨hj, hp⟩ := hj
    have h := dF h
    have h : ¬ (j : Int) < ((n : Nat) : Int) := h
    have hn : j = n := by have : j ≤ n := hj; omega
    subst hn
    refine Ct.callF (row_ct j (wrT f) (by omega) (by have := hf.len; omega)) rfl (leL.refl _) rfl ?_
    exact ⟨LV.le.refl _, rfl⟩
theorem gpipes_ct {o : Obj} (ho : PowO o) (n : Nat) (f : Nat → Int × List UInt8) (hf : WsOk n f) : Ct Tryz.prog 47 [.sl 2 n (wvsY o f), .v (.func (.func 48) #[] #[])] (.str (rowN (wrT f) n)) := by
  have hn := hf.1
  refine Ct.enter Tryz.tab2Ok ft47 ?_
  refine ⟨Nat, fun j => ⟨[(10, iv (j : Int)), (9, iv (n : Int)), (8, .sl 2 n (wvsY o f)), (1, .v (.func (.func 48) #[] #[])), (5, .ls 0 j)], [(0, .arr 9 1 j (tx (wrT f)))], 1, 0⟩, fun j => j ≤ n ∧ True, fun j => n - j, 0, ⟨Nat.zero_le _, True.intro⟩, .own (ty := 9) (sz := 1) ⟨rfl, rfl, ⟨.refl _, rfl, .refl _, rfl, .refl _, rfl, .refl _, rfl, .nil, rfl, trivial⟩, ⟨⟨_, rfl, .of (LO.le.arr rfl fun i hi => absurd hi (by omega))⟩, rfl, rfl, trivial⟩⟩, fun j hj => ⟨fun h => ?_, fun h => ?_⟩⟩
  · obtain ⟨hj, hp⟩ := hj
    have h := dT h
    have h : (j : Int) < ((n : Nat) : Int) := h
    have hj : j < n := by omega
    have ej := w1 hj (by omega)
    obtain ⟨hf1, hf2⟩ := hf.2 j (by omega)
    refine ⟨⟨by omega, by omega⟩, ?_⟩
    refine Ct.callC (gpipe_ct ho (f j) hf1 hf2) rfl (leL.refl _) ?_
    exact ⟨by show (j + 1) * 16 ≤ _; omega, by show j + 1 ≤ _; omega, ⟨j + 1, ⟨(by omega : j + 1 ≤ n), True.intro⟩, (by omega : n - (j + 1) < n - j), .ren (a := 0) (b := 3) ⟨rfl, ⟨rfl, rfl, rfl, Nat.le_of_ble_eq_true rfl⟩, ⟨LV.le.int ej, rfl, LV.le.refl _, rfl, LV.le.refl _, rfl, LV.le.refl _, rfl, LV.le.refl _, rfl, trivial⟩, ⟨⟨_, rfl, LO.le.arrL rfl fun i hi => snocL (leL.refl _) i hi⟩, rfl, rfl, trivial⟩⟩⟩⟩
  · obtain ⟨hj, hp⟩ := hj
    have h := dF h
    have h : ¬ (j : Int) < ((n : Nat) : Int) := h
    have hn : j = n := by have : j ≤ n := hj; omega
    subst hn
    refine Ct.callF (row_ct j (wrT f) (by omega) (by have := hf.len; omega)) rfl (leL.refl _) rfl ?_
    exact ⟨LV.le.refl _, rfl⟩
theorem rwrites_ct (n : Nat) (f : Nat → Int × List UInt8) (hf : WsOk n f) : Ct Tryz.prog 101 [.sl 2 n (wvs f)] (.str (rowN (wrT f) n)) := by
  have hn := hf.1
  refine Ct.enter Tryz.tab2Ok ft101 ?_
  refine ⟨Nat, fun j => ⟨[(8, iv (j : Int)), (7, iv (n : Int)), (0, .sl 2 n (wvs f)), (3, .ls 0 j)], [(0, .arr 9 1 j (tx (wrT f)))], 1, 0⟩, fun j => j ≤ n ∧ True, fun j => n - j, 0, ⟨Nat.zero_le _, True.intro⟩, .le ⟨rfl, ⟨rfl, Nat.le_of_ble_eq_true rfl⟩, ⟨LV.le.refl _, rfl, LV.le.refl _, rfl, LV.le.refl _, rfl, LV.le.refl _, rfl, trivial⟩, ⟨⟨_, rfl, LO.le.arr rfl fun i hi => absurd hi (by omega)⟩, rfl, rfl, trivial⟩⟩, fun j hj => ⟨fun h => ?_, fun h => ?_⟩⟩
  · obtain ⟨hj, hp⟩ := hj
    have h := dT h
    have h : (j : Int) < ((n : Nat) : Int) := h
    have hj : j < n := by omega
    have ej := w1 hj (by omega)
    obtain ⟨hf1, hf2⟩ := hf.2 j (by omega)
    have hb := wrB_len (f j) hf1
    have e4 : rowN (atL [Lib.itoa (f j).1, (f j).2]) 2 = wrB (f j) := rowN_list [Lib.itoa (f j).1, (f j).2]
    refine DrawA.run Tryz.tab2Ok Tryz.mixed [0, 0, 0, 6, 14, 30, 62, 0, 0, 384, 896, 1920, 4094, 8190, 16382, 32767, 65535] [12, 14, 15] rfl ?_
    refine ⟨_, ⟨LV.le.refl _, rfl⟩, ?_⟩
    refine ⟨_, ⟨LV.le.refl _, rfl⟩, ?_⟩
    refine ⟨_, ⟨LV.le.refl _, rfl⟩, ?_⟩
    refine ⟨_, ⟨⟨by omega, by omega⟩, LV.le.refl _, rfl⟩, ?_⟩
    refine ⟨_, ⟨LV.le.refl _, rfl⟩, ?_⟩
    refine ⟨_, ⟨LV.le.refl _, rfl⟩, ?_⟩
    refine ⟨_, Ct.callC (rnum_ct (f j).1 hf1.1 hf1.2) rfl (leL.refl _) ⟨LV.le.refl _, rfl⟩, ?_⟩
    refine ⟨_, ⟨LV.le.refl _, rfl⟩, ?_⟩
    refine ⟨_, ⟨LV.le.refl _, rfl⟩, ?_⟩
    refine ⟨_, ⟨⟨by omega, by omega⟩, LV.le.refl _, rfl⟩, ?_⟩
    refine ⟨_, ⟨LV.le.refl _, rfl⟩, ?_⟩
    refine ⟨_, ⟨LV.le.refl _, rfl⟩, ?_⟩
    refine ⟨_, _, ⟨LV.le.refl _, rfl⟩, ?_⟩
    refine ⟨.str (wrB (f j)), Ct.callF (rrow_ct 2 (atL [Lib.itoa (f j).1, (f j).2]) (by omega) (by rw [e4]; omega)) rfl ⟨_, _, rfl, LV.le.sl rfl fun i hi => ?_, rfl⟩ rfl ⟨LV.le.eq (congrArg LV.str e4), rfl⟩, ?_⟩
    · rcases (by omega : i = 0 ∨ i = 1) with rfl | rfl <;> rfl
    refine ⟨_, _, ⟨LV.le.refl _, rfl⟩, ?_⟩
    refine ⟨_, _, ⟨by show (j + 1) * 16 ≤ _; omega, by show j + 1 ≤ _; omega, LV.le.refl _, rfl⟩, ?_⟩
    refine ⟨_, ⟨LV.le.refl _, rfl⟩, ?_⟩
    refine ⟨⟨⟨True.intro, ⟨LV.le.refl _, rfl⟩, ⟨LV.le.refl _, rfl⟩, True.intro⟩, True.intro⟩, ?_⟩
    exact ⟨j + 1, ⟨(by omega : j + 1 ≤ n), True.intro⟩, (by omega : n - (j + 1) < n - j), .ren (a := 0) (b := 3) ⟨rfl, ⟨rfl, rfl, rfl, Nat.le_of_ble_eq_true rfl⟩, ⟨LV.le.int ej, rfl, LV.le.refl _, rfl, LV.le.refl _, rfl, LV.le.refl _, rfl, trivial⟩, ⟨⟨_, rfl, LO.le.arrL rfl fun i hi => snocL (leL.refl _) i hi⟩, rfl, rfl, trivial⟩⟩⟩
  · obtain ⟨hj, hp⟩ := hj
    have h := dF h
    have h : ¬ (j : Int) < ((n : Nat) : Int) := h
    have hn : j = n := by have : j ≤ n := hj; omega
    subst hn
    refine Ct.callF (rrow_ct j (wrT f) (by omega) (by have := hf.len; omega)) rfl (leL.refl _) rfl ?_
    exact ⟨LV.le.refl _, rfl⟩
theorem rpipes_ct (n : Nat) (f : Nat → Int × List UInt8) (hf : WsOk n f) : Ct Tryz.prog 102 [.sl 2 n (wvs f)] (.str (rowN (wrT f) n)) := by
  have hn := hf.1
  refine Ct.enter Tryz.tab2Ok ft102 ?_
  refine ⟨Nat, fun j => ⟨[(8, iv (j : Int)), (7, iv (n : Int)), (0, .sl 2 n (wvs f)), (3, .ls 0 j)], [(0, .arr 9 1 j (tx (wrT f)))], 1, 0⟩, fun j => j ≤ n ∧ True, fun j => n - j, 0, ⟨Nat.zero_le _, True.intro⟩, .le ⟨rfl, ⟨rfl, Nat.le_of_ble_eq_true rfl⟩, ⟨LV.le.refl _, rfl, LV.le.refl _, rfl, LV.le.refl _, rfl, LV.le.refl _, rfl, trivial⟩, ⟨⟨_, rfl, LO.le.arr rfl fun i hi => absurd hi (by omega)⟩, rfl, rfl, trivial⟩⟩, fun j hj => ⟨fun h => ?_, fun h => ?_⟩⟩
  · obtain ⟨hj, hp⟩ := hj
    have h := dT h
    have h : (j : Int) < ((n : Nat) : Int) := h
    have hj : j < n := by omega
    have ej := w1 hj (by omega)
    obtain ⟨hf1, hf2⟩ := hf.2 j (by omega)
    have hb := wrB_len (f j) hf1
    have e4 : rowN (atL [Lib.itoa (f j).1, (f j).2]) 2 = wrB (f j) := rowN_list [Lib.itoa (f j).1, (f j).2]
    refine DrawA.run Tryz.tab2Ok Tryz.mixed [0, 0, 0, 6, 14, 30, 62, 0, 0, 384, 896, 1920, 4094, 8190, 16382, 32767, 65535] [12, 14, 15] rfl ?_
    refine ⟨_, ⟨LV.le.refl _, rfl⟩, ?_⟩
    refine ⟨_, ⟨LV.le.refl _, rfl⟩, ?_⟩
    refine ⟨_, ⟨LV.le.refl _, rfl⟩, ?_⟩
    refine ⟨_, ⟨⟨by omega, by omega⟩, LV.le.refl _, rfl⟩, ?_⟩
    refine ⟨_, ⟨LV.le.refl _, rfl⟩, ?_⟩
    refine ⟨_, ⟨LV.le.refl _, rfl⟩, ?_⟩
    refine ⟨_, Ct.callC (rnum_ct (f j).1 hf1.1 hf1.2) rfl (leL.refl _) ⟨LV.le.refl _, rfl⟩, ?_⟩
    refine ⟨_, ⟨LV.le.refl _, rfl⟩, ?_⟩
    refine ⟨_, ⟨LV.le.refl _, rfl⟩, ?_⟩
    refine ⟨_, ⟨⟨by omega, by omega⟩, LV.le.refl _, rfl⟩, ?_⟩
    refine ⟨_, ⟨LV.le.refl _, rfl⟩, ?_⟩
    refine ⟨_, ⟨LV.le.refl _, rfl⟩, ?_⟩
    refine ⟨_, _, ⟨LV.le.refl _, rfl⟩, ?_⟩
    refine ⟨.str (wrB (f j)), Ct.callF (rrow_ct 2 (atL [Lib.itoa (f j).1, (f j).2]) (by omega) (by rw [e4]; omega)) rfl ⟨_, _, rfl, LV.le.sl rfl fun i hi => ?_, rfl⟩ rfl ⟨LV.le.eq (congrArg LV.str e4), rfl⟩, ?_⟩
    · rcases (by omega : i = 0 ∨ i = 1) with rfl | rfl <;> rfl
    refine ⟨_, _, ⟨LV.le.refl _, rfl⟩, ?_⟩
    refine ⟨_, _, ⟨by show (j + 1) * 16 ≤ _; omega, by show j + 1 ≤ _; omega, LV.le.refl _, rfl⟩, ?_⟩
    refine ⟨_, ⟨LV.le.refl _, rfl⟩, ?_⟩
    refine ⟨⟨⟨True.intro, ⟨LV.le.refl _, rfl⟩, ⟨LV.le.refl _, rfl⟩, True.intro⟩, True.intro⟩, ?_⟩
    exact ⟨j + 1, ⟨(by omega : j + 1 ≤ n), True.intro⟩, (by omega : n - (j + 1) < n - j), .ren (a := 0) (b := 3) ⟨rfl, ⟨rfl, rfl, rfl, Nat.le_of_ble_eq_true rfl⟩, ⟨LV.le.int ej, rfl, LV.le.refl _, rfl, LV.le.refl _, rfl, LV.le.refl _, rfl, trivial⟩, ⟨⟨_, rfl, LO.le.arrL rfl fun i hi => snocL (leL.refl _) i hi⟩, rfl, rfl, trivial⟩⟩⟩
  · obtain ⟨hj, hp⟩ := hj
    have h := dF h
    have h : ¬ (j : Int) < ((n : Nat) : Int) := h
    have hn : j = n := by have : j ≤ n := hj; omega
    subst hn
    refine Ct.callF (rrow_ct j (wrT f) (by omega) (by have := hf.len; omega)) rfl (leL.refl _) rfl ?_
    exact ⟨LV.le.refl _, rfl⟩
end Go.Proofs.Aw
