/- A PART OF THE PROOF: an abstract run of the loaded code over value trees, and the functions walked by it. No condition of its own. -/
import Derived.Test.YtanmknmlphkeaaaGreatDoorGZS3
namespace Go.Proofs.Aw
open Go Go.Proofs Go.RowKit
set_option maxHeartbeats 8000000
set_option maxRecDepth 100000
theorem rowN_congr2 {w w' : TL} {n n' : Nat} (h : SameT n n' w w') : rowN w n = rowN w' n' := by
  obtain ⟨rfl, h⟩ := h
  exact rowN_congr h
theorem sm_rows {m : MM} (h : Sm m.nF m.nB m.fr m.bl []) : (rowN m.fr m.nF).length ≤ 10000 ∧ (rowN m.bl m.nB).length ≤ 40000 := by
  obtain ⟨h1, h2, _, h4, h5⟩ := h
  have a := rowN_bound (w := m.fr) (b := 200) m.nF h4
  have c := rowN_bound (w := m.bl) (b := 200) m.nB h5
  constructor <;> omega
def bytesL (m : MM) : List (List UInt8) := [hibi, rowN m.fr m.nF, rowN m.bl m.nB, restB m]
theorem bytes_iff {a b : MM} (sa : Sm a.nF a.nB a.fr a.bl []) (sb : Sm b.nF b.nB b.fr b.bl []) (la : (restB a).length < 268435456) (lb : (restB b).length < 268435456) : rowL (bytesL a) = rowL (bytesL b) ↔ SameM a b := by
  obtain ⟨a1, a2⟩ := sm_rows sa
  obtain ⟨b1, b2⟩ := sm_rows sb
  constructor
  · intro h
    have hl := rowL_inj h (by
      intro s hs
      simp only [bytesL, List.mem_cons, List.not_mem_nil, or_false] at hs
      rcases hs with rfl | rfl | rfl | rfl
      · decide
      · omega
      · omega
      · exact la) (by
      intro s hs
      simp only [bytesL, List.mem_cons, List.not_mem_nil, or_false] at hs
      rcases hs with rfl | rfl | rfl | rfl
      · decide
      · omega
      · omega
      · exact lb)
    simp only [bytesL, List.cons.injEq, and_true, true_and] at hl
    obtain ⟨h1, h2, h3⟩ := hl
    exact ⟨rowN_inj h1 (fun i hi => by have := sa.2.2.2.1 i hi; omega) (fun i hi => by have := sb.2.2.2.1 i hi; omega), rowN_inj h2 (fun i hi => by have := sa.2.2.2.2 i hi; omega) (fun i hi => by have := sb.2.2.2.2 i hi; omega), h3⟩
  · rintro ⟨h1, h2, h3⟩
    unfold bytesL
    rw [rowN_congr2 h1, rowN_congr2 h2, h3]
theorem bytesL_len {m : MM} (s : Sm m.nF m.nB m.fr m.bl []) (l : (restB m).length ≤ 100000000) : (rowL (bytesL m)).length ≤ 1000000000 := by
  obtain ⟨a1, a2⟩ := sm_rows s
  have h := rowL_len (bytesL m)
  have hh : hibi.length = 4 := rfl
  simp only [bytesL, List.map_cons, List.map_nil, List.sum_cons, List.sum_nil, hh] at h
  show (rowL (bytesL m)).length ≤ _
  simp only [bytesL]
  omega
def imgC (m : MM) : List LV := [.sl 1 m.nF (tx m.fr), .sl 1 m.nB (tx m.bl), .str (restB m)]
def imgO : List LV := [.v (.slice none 0 0), .v (.slice none 0 0), .str []]
theorem not_large {m : MM} (h : ¬ LargeM m) : m.nP ≤ 8 ∧ m.nW ≤ 60 ∧ m.nD ≤ 32 ∧ m.nQ ≤ 8 ∧ m.inp.length ≤ 300 ∧ m.init.length ≤ 300 ∧ Sm m.nF m.nB m.fr m.bl [] := by
  unfold LargeM at h
  simp only [not_or, Classical.not_not] at h
  obtain ⟨h1, h2, h3, h4, h5, h6, h7⟩ := h
  exact ⟨by omega, by omega, by omega, by omega, by omega, by omega, h7⟩
/-- the rest of a machine that isn't large -/
theorem restB_small {m : MM} (h : TyM m) (hW : m.nW ≤ 60) (hD : m.nD ≤ 32) (hQ : m.nQ ≤ 8) (hP : m.nP ≤ 8) (dW : ∀ i, i < m.nW → (m.pend i).2.length ≤ 128) (dD : ∀ i, i < m.nD → (m.dirty i).2.length ≤ 128) (dQ : ∀ i, i < m.nQ → (m.pq i).2.length ≤ 128) (hi : m.inp.length ≤ 300) (hj : m.init.length ≤ 300) : (restB m).length ≤ 1000000 := by
  have h1 := itoa_len h.quantum.1 h.quantum.2
  have h2 := itoa_len h.cur.1 h.cur.2
  have h3 := itoa_len h.left.1 h.left.2
  have h4 := itoa_len h.next.1 h.next.2
  have h5 := itoa_len h.newPipe.1 h.newPipe.2
  have h6 := itoa_len h.dleft.1 h.dleft.2
  have one : ∀ (n : Nat) (f : Nat → Int × List UInt8), (∀ i, i < n → i64R (f i).1) → (∀ i, i < n → (f i).2.length ≤ 128) → (rowN (wrT f) n).length ≤ n * 722 := fun n f h1 h2 => by
    have := rowN_bound (w := wrT f) (b := 356) n fun i hi => by
      have := wrB_len (f i) (h1 i hi)
      have := h2 i hi
      show (wrB (f i)).length ≤ _
      omega
    exact this
  have q1 := one m.nW m.pend (fun i hi => (h.W.2 i hi).1) dW
  have q2 := one m.nD m.dirty (fun i hi => (h.D.2 i hi).1) dD
  have q3 := one m.nQ m.pq (fun i hi => (h.Q.2 i hi).1) dQ
  have q4 := rowN_bound (w := prT m) (b := 2000) m.nP fun i hi => prB_len (m.ps i) (h.P.2 i hi)
  have hr := rowL_len (restL m)
  have hh : hib2.length = 4 := rfl
  simp only [restL, List.map_cons, List.map_nil, List.sum_cons, List.sum_nil, putF_len, flagB_len, hh] at hr
  show (rowL (restL m)).length ≤ _
  simp only [restL]
  omega
theorem small_of {m : MM} (hR : TyR m) (hl : ¬ LargeM m) (hc : chkE m = 0) : TyM m ∧ (∀ i, i < m.nP → NoPage (m.ps i)) ∧ (∀ i, i < m.nP → VaP (m.ps i)) ∧ (restB m).length ≤ 1000000 := by
  obtain ⟨l1, l2, l3, l4, l5, l6, l7⟩ := not_large hl
  obtain ⟨hT, hN⟩ := tyM_of hR (by omega) hc
  obtain ⟨c1, c2, c3, c4, c5, c6, c7⟩ := chk_ok hc
  obtain ⟨d1, d2, d3⟩ := disk_ok c7
  obtain ⟨d4, d5⟩ := drv_ok d1
  exact ⟨hT, hN, va_of hc (by have := l7.1; omega), restB_small hT l2 l3 l4 l1 (fun i hi => Nat.le_of_eq (d5 i hi)) (fun i hi => Nat.le_of_eq (d3 i hi)) (fun i hi => by have := (c4 i hi).2.2.2; omega) l5 l6⟩
set_option maxHeartbeats 32000000 in
open Classical in
/-- two machines that may be have the same image just if they are the same in all -/
theorem apart_ct {o : Obj} (ho : PowO o) (a b : MM) (ra : TyR a) (rb : TyR b) : Ct Tryz.prog 3 [.agg (a.cY o), .agg (b.cY o)] (.v (.bool true)) := by
  refine Ct.enter Tryz.tab2Ok ft3 ?_
  by_cases la : LargeM a
  · refine Ct.callC (large_ct a 1 (fun _ => rfl) (fun h => absurd la h)) rfl (leL.refl _) ?_
    refine ⟨fun _ => ?_, fun h => absurd h (by decide)⟩
    refine Ct.callC awake_ct rfl (leL.refl _) ?_
    exact ⟨LV.le.refl _, rfl⟩
  refine Ct.callC (large_ct a 0 (fun h => absurd h la) (fun _ => rfl)) rfl (leL.refl _) ?_
  refine ⟨fun h => absurd h (by decide), fun _ => ?_⟩
  by_cases lb : LargeM b
  · refine Ct.callC (large_ct b 1 (fun _ => rfl) (fun h => absurd lb h)) rfl (leL.refl _) ?_
    refine ⟨fun _ => ?_, fun h => absurd h (by decide)⟩
    refine Ct.callC awake_ct rfl (leL.refl _) ?_
    exact ⟨LV.le.refl _, rfl⟩
  refine Ct.callC (large_ct b 0 (fun h => absurd h lb) (fun _ => rfl)) rfl (leL.refl _) ?_
  refine ⟨fun h => absurd h (by decide), fun _ => ?_⟩
  obtain ⟨a1, a2, a3, a4, a5, a6, a7⟩ := not_large la
  obtain ⟨b1, b2, b3, b4, b5, b6, b7⟩ := not_large lb
  have a8 := a7.1; have a9 := a7.2.1; have b8 := b7.1; have b9 := b7.2.1
  have fa : Fits a := ⟨by omega, by omega, ra.nQ, by omega, by omega, by omega⟩
  have fb : Fits b := ⟨by omega, by omega, rb.nQ, by omega, by omega, by omega⟩
  refine Ct.callC (rcheck_ct a fa) rfl ⟨_, _, rfl, a.aY_le o, rfl⟩ ?_
  refine ⟨fun h => ?_, fun h => ?_⟩
  · refine Ct.callC awake_ct rfl (leL.refl _) ?_
    exact ⟨LV.le.refl _, rfl⟩
  have ca : chkE a = 0 := bnF h
  clear h
  refine Ct.callC (rcheck_ct b fb) rfl ⟨_, _, rfl, b.aY_le o, rfl⟩ ?_
  refine ⟨fun h => ?_, fun h => ?_⟩
  · refine Ct.callC awake_ct rfl (leL.refl _) ?_
    exact ⟨LV.le.refl _, rfl⟩
  have cb : chkE b = 0 := bnF h
  clear h
  obtain ⟨ta, na, va, qa⟩ := small_of ra la ca
  obtain ⟨tb, nb, vb, qb⟩ := small_of rb lb cb
  have hbi := bytes_iff a7 b7 (show (restB a).length < 268435456 by omega) (show (restB b).length < 268435456 by omega)
  have hba := bytesL_len a7 (show (restB a).length ≤ 100000000 by omega)
  have hbb := bytesL_len b7 (show (restB b).length ≤ 100000000 by omega)
  have hra := sm_rows a7
  have hrb := sm_rows b7
  have hsm := fun v hv => samem_ct (o := o) a b ta tb ⟨by omega, by omega⟩ ⟨by omega, by omega⟩ ra.PK (fun h => rest_procs ta tb ra.PQ rb.PQ va vb h o) v hv
  have g1 := gof_ok ho a fa ta na ca
  have g2 := gof_ok ho b fb tb nb cb
  obtain ⟨v, hv⟩ : ∃ v : Bool, (v = true ↔ SameM a b) := ⟨decide (SameM a b), by simp⟩
  have hs := hsm v hv
  have hsame := rsame_ct a.nF a.nB b.nF b.nB a.fr a.bl b.fr b.bl (restB a) (restB b) (by omega) (by omega) (by omega) (by omega) v hv
  have hstr : (rowL (bytesL a) == rowL (bytesL b)) = v := by
    cases v with
    | true => simpa using hbi.2 (hv.1 rfl)
    | false =>
      have : ¬ rowL (bytesL a) = rowL (bytesL b) := fun e => by have := hv.2 (hbi.1 e); cases this
      simpa using this
  have ya := bytes_ct a.nF a.nB a.fr a.bl (restB a) (by omega) (by omega) (by omega) (by omega) hba
  have yb := bytes_ct b.nF b.nB b.fr b.bl (restB b) (by omega) (by omega) (by omega) (by omega) hbb
  clear hsm hbi la lb fa fb ca cb ta tb na nb va vb hv
  refine DrawA.le (T := Tryz.tab2) (st' := ⟨[(2, .lp 0 0), (3, .lp 1 0)], [(1, .box 30 (b.cY o)), (0, .box 30 (a.cY o))], 2, 0⟩) ⟨rfl, ⟨rfl, Nat.le_of_ble_eq_true rfl⟩, ⟨LV.le.refl _, rfl, LV.le.refl _, rfl, trivial⟩, ⟨⟨_, rfl, LO.le.refl _⟩, rfl, rfl, ⟨_, rfl, LO.le.refl _⟩, rfl, rfl, trivial⟩⟩ ?_
  refine DrawA.two Tryz.tab2Ok Tryz.mixed [0, 1, 0, 7, 0, 0, 63, 127] 4 5 6
    [.agg (a.cY o), imgM a, .agg (b.cY o), imgM b, .lp 2 0, .lp 3 0, .any, .any]
    [((2, .box 36 (imgC a)) :: (s11 2 (.box 36 imgO) (.box 36 imgO) [(1, .box 30 (b.cY o)), (0, .box 30 (a.cY o))]).1, 4), ((3, .box 36 (imgC b)) :: (2, .box 36 (imgC a)) :: (s11 2 (.box 36 imgO) (.box 36 imgO) [(1, .box 30 (b.cY o)), (0, .box 30 (a.cY o))]).1, 4)]
    rfl rfl ⟨rfl, rfl, rfl, rfl, rfl⟩ ⟨rfl, rfl, rfl, rfl, rfl⟩ rfl rfl rfl ?_ ?_
  · refine ⟨⟨⟨LV.le.refl _, rfl⟩, ⟨LV.le.refl _, rfl⟩, ⟨LV.le.refl _, rfl⟩, ⟨LV.le.refl _, rfl⟩⟩, ?_⟩
    refine ⟨⟨Ct.callC g1 rfl (leL.refl _) ⟨LV.le.refl _, rfl⟩, Ct.callC g1 rfl (leL.refl _) ⟨LV.le.refl _, rfl⟩, Ct.callC g1 rfl (leL.refl _) ⟨LV.le.refl _, rfl⟩, Ct.callC g1 rfl (leL.refl _) ⟨LV.le.refl _, rfl⟩⟩, ?_⟩
    refine ⟨⟨⟨LV.le.refl _, rfl⟩, ⟨LV.le.refl _, rfl⟩, ⟨LV.le.refl _, rfl⟩, ⟨LV.le.refl _, rfl⟩⟩, ?_⟩
    refine ⟨⟨Ct.callC g2 rfl (leL.refl _) ⟨LV.le.refl _, rfl⟩, Ct.callC g2 rfl (leL.refl _) ⟨LV.le.refl _, rfl⟩, Ct.callC g2 rfl (leL.refl _) ⟨LV.le.refl _, rfl⟩, Ct.callC g2 rfl (leL.refl _) ⟨LV.le.refl _, rfl⟩⟩, ?_⟩
    refine ⟨True.intro, ?_⟩
    refine ⟨True.intro, ?_⟩
    refine ⟨⟨LV.le.refl _, rfl⟩, ?_⟩
    refine ⟨⟨LV.le.refl _, rfl⟩, ?_⟩
    exact True.intro
  refine Ct.callC hs rfl (leL.refl _) ?_
  refine DrawA.run Tryz.tab2Ok Tryz.mixed [0, 0, 3, 0, 15, 31, 63, 127, 63, 511, 1023, 63, 4095, 8191, 16383, 32767, 65535, 131071] [] rfl ?_
  refine ⟨imgM a, ⟨LV.le.refl _, rfl⟩, ?_⟩
  refine ⟨imgM b, ⟨LV.le.refl _, rfl⟩, ?_⟩
  refine ⟨_, Ct.callC hsame rfl (leL.refl _) ⟨LV.le.refl _, rfl⟩, ?_⟩
  refine ⟨_, ⟨LV.le.refl _, rfl⟩, ?_⟩
  refine ⟨.v (.bool true), ⟨LV.le.bsV (by simp), rfl⟩, ?_⟩
  refine ⟨_, ⟨LV.le.refl _, rfl⟩, ?_⟩
  refine ⟨imgM a, ⟨LV.le.refl _, rfl⟩, ?_⟩
  refine ⟨.str (rowL (bytesL a)), Ct.callC ya rfl (leL.refl _) ⟨LV.le.refl _, rfl⟩, ?_⟩
  refine ⟨imgM b, ⟨LV.le.refl _, rfl⟩, ?_⟩
  refine ⟨.str (rowL (bytesL b)), Ct.callC yb rfl (leL.refl _) ⟨LV.le.refl _, rfl⟩, ?_⟩
  refine ⟨.v (.bool v), ⟨LV.le.bsV hstr, rfl⟩, ?_⟩
  refine ⟨_, ⟨LV.le.refl _, rfl⟩, ?_⟩
  refine ⟨.v (.bool true), ⟨LV.le.bsV (by simp), rfl⟩, ?_⟩
  refine ⟨_, ⟨LV.le.refl _, rfl⟩, ?_⟩
  refine ⟨_, ⟨LV.le.refl _, rfl⟩, ?_⟩
  refine ⟨_, Ct.callC awake_ct rfl (leL.refl _) ⟨LV.le.refl _, rfl⟩, ?_⟩
  refine ⟨_, ⟨LV.le.refl _, rfl⟩, ?_⟩
  refine ⟨_, ⟨LV.le.refl _, rfl⟩, ?_⟩
  refine ⟨True.intro, ?_⟩
  exact ⟨LV.le.refl _, rfl⟩
end Go.Proofs.Aw
