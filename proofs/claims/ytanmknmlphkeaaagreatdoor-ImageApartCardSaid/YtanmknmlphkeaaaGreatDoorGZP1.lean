/- A PART OF THE PROOF: an abstract run of the loaded code over value trees, and the functions walked by it. No condition of its own. -/
import Derived.Test.YtanmknmlphkeaaaGreatDoorZL2
import Derived.Test.YtanmknmlphkeaaaGreatDoorGZK1
import Derived.Lib.AppendIntMem
import Derived.Lib.ItoaLen
import Derived.Test.YtanmknmlphkeaaaGreatDoorGZD12
import Derived.Test.YtanmknmlphkeaaaGreatDoorGA27
namespace Go.Proofs.Aw
open Go Go.Proofs Go.RowKit
set_option maxHeartbeats 4000000
set_option maxRecDepth 100000
/-- the table of the powers of ten, as it lies in memory -/
def PowO (o : Obj) : Prop := ∃ ty fz, o = .cells ((Lib.pow10Tab.map fun z => Value.int .u64 z).toArray) ty fz
/-- an int of a machine, the table lying in memory -/
def yv (o : Obj) (x : Int) : LV := .ly 1 o (.int .i64 x)
theorem LV.le.ly {g : Nat} {o : Obj} {x : Value} : LV.le (.ly g o x) (.v x) := fun _ _ _ h => h.1
theorem yv_le (o : Obj) (x : Int) : LV.le (yv o x) (.v (.int .i64 x)) := LV.le.ly
theorem fint_ct {o : Obj} (ho : PowO o) (n : Int) (h0 : -9223372036854775808 ≤ n) (h1 : n ≤ 9223372036854775807) : Ct Tryz.prog 146 [yv o n, .v (.int .i64 10)] (.str (Lib.itoa n)) := by
  refine ⟨ft146.ok, fun w vo lt us hu => ?_⟩
  obtain ⟨y, r, rfl, ⟨e1, e2, e3⟩, y2, r2, rfl, e4, e5⟩ := hu
  have e4 : y2 = .int .i64 10 := e4
  have e5 : r2 = [] := e5
  subst e1; subst e4; subst e5
  obtain ⟨ty, fz, rfl⟩ := ho
  have hT : Lib.TabIs Tryz.prog w "internal/strconv.uint64pow10" .u64 Lib.pow10Tab := by
    unfold Lib.TabIs World.var?
    rw [show Tryz.prog.globalNamed "internal/strconv.uint64pow10" = some 1 from Tryz.laysM173.m17]
    have e2 : w.heap[1]? = some (.cells ((Lib.pow10Tab.map fun z => Value.int .u64 z).toArray) ty fz) := e2
    simp only [Option.bind_some, e2]
  refine (Any.strconv_FormatInt_10 Tryz.laysM173 n h0 h1 w hT).mono ?_
  rintro e w' ⟨rfl, k, os, rfl⟩
  have hb := Lib.below_grow w.heap.size w (Nat.le_refl _) k os
  exact ⟨_, fun k hk => Nat.lt_of_lt_of_le (lt k hk) hb.size, rfl, ⟨⟨hb.os, hb.tape, hb.output⟩, hb.size, fun k hk => hb.block k hk⟩, rfl⟩
theorem num_dec_ct {o : Obj} (ho : PowO o) (n : Int) (h0 : -9223372036854775808 ≤ n) (h1 : n ≤ 9223372036854775807) : Ct Tryz.prog 95 [yv o n] (.str (Lib.itoa n)) := by
  refine Ct.enter Tryz.tabOk ft95 ?_
  refine Ct.callC (fint_ct ho n h0 h1) rfl (leL.refl _) ?_
  exact ⟨LV.le.refl _, rfl⟩
theorem dec_ct {o : Obj} (ho : PowO o) (n : Int) (h0 : -9223372036854775808 ≤ n) (h1 : n ≤ 9223372036854775807) : Ct Tryz.prog 43 [yv o n] (.str (Lib.itoa n)) := by
  refine Ct.enter Tryz.tabOk ft43 ?_
  refine Ct.callC (num_dec_ct ho n h0 h1) rfl (leL.refl _) ?_
  exact ⟨LV.le.refl _, rfl⟩
end Go.Proofs.Aw
namespace Go.Proofs.Aw
open Go Go.Proofs
set_option maxHeartbeats 8000000
set_option maxRecDepth 100000
theorem cnt_mono {k k' : KL} : ∀ {n : Nat}, (∀ i, i < n → (k i).1 = true → (k' i).1 = true) → cnt k' n ≤ cnt k n
  | 0, _ => Nat.le_refl _
  | n + 1, h => by
    have ih := cnt_mono (k := k) (k' := k') (n := n) fun i hi => h i (by omega)
    have hn := h n (by omega)
    simp only [cnt]
    cases h1 : (k n).1 with
    | true => simp [hn h1]; omega
    | false => simp; split <;> omega
theorem wK_is {k : KL} {w w' : TL} {M M' i : Nat} (h : (k i).1 = true) : wK k w w' M M' i = k i := by
  unfold wK; rw [if_neg]; rw [h]; simp
theorem pK_is {k : KL} {w : TL} {M i : Nat} {n : Int} (h : (k i).1 = true) : pK k w M n i = k i := by
  unfold pK; rw [if_neg]; rw [h]; simp
theorem catK_mono {n0 n : Nat} {k0 k1 k0' k1' : KL} (h0 : ∀ i, (k0 i).1 = true → (k0' i).1 = true) (h1 : ∀ i, (k1 i).1 = true → (k1' i).1 = true) : cnt (catK n0 k0' k1') n ≤ cnt (catK n0 k0 k1) n :=
  cnt_mono fun i _ h => by
    simp only [catK] at h ⊢
    split
    · rename_i hi; rw [if_pos hi] at h; exact h0 _ h
    · rename_i hi; rw [if_neg hi] at h; exact h1 _ h
theorem great_yes (m : MV) (c : Int) (n0 n1 : Nat) (k0 k1 : KL) (r : List UInt8) (h : Big m n0 n1) : Ct Tryz.prog 17 [.agg m.lv, shot c n0 n1 k0 k1 r] (.v (.int .i64 1)) := by
  have := great_ct m c n0 n1 k0 k1 r
  rwa [if_pos h] at this
theorem great_no (m : MV) (c : Int) (n0 n1 : Nat) (k0 k1 : KL) (r : List UInt8) (h : ¬ Big m n0 n1) : Ct Tryz.prog 17 [.agg m.lv, shot c n0 n1 k0 k1 r] (.v (.int .i64 0)) := by
  have := great_ct m c n0 n1 k0 k1 r
  rwa [if_neg h] at this
end Go.Proofs.Aw
namespace Go.Proofs.Aw
open Go Go.Proofs
set_option maxHeartbeats 8000000
set_option maxRecDepth 100000
theorem kept_ct (n : Nat) (a b : KL) (hn : n ≤ 400) (h : ∀ i, i < n → a i = b i) : Ct Tryz.prog 54 [.sl 2 n (kv a), .sl 2 n (kv b)] (.v (.bool true)) := by
  refine Ct.enter Tryz.tabOk ft54 ?_
  refine ⟨fun h => absurd h (by simp), fun _ => ?_⟩
  refine ⟨Nat, fun j => ⟨[(5, .v (.int .i64 (j : Int))), (0, .sl 2 n (kv a)), (1, .sl 2 n (kv b))], [], 0, 0⟩, fun j => j ≤ n, fun j => n - j, 0, Nat.zero_le _,
    .le ⟨rfl, ⟨rfl, Nat.le_refl _⟩, ⟨LV.le.refl _, rfl, LV.le.refl _, rfl, LV.le.refl _, rfl, trivial⟩, trivial⟩, fun j hj => ⟨fun h1 => ?_, fun h1 => ?_⟩⟩
  · have h1 := dT h1
    have ej := h j (by omega)
    have e11 : IntKind.i64.wrap ((j : Int) + 1) = ((j + 1 : Nat) : Int) := by rw [w64] <;> omega
    refine DrawA.run Tryz.tabOk Tryz.mixed [0, 0, 3, 7, 0, 0, 48, 112, 255] [] rfl ?_
    refine ⟨_, ⟨LV.le.refl _, rfl⟩, ?_⟩
    refine ⟨_, ⟨LV.le.refl _, rfl⟩, ?_⟩
    refine ⟨_, ⟨⟨by omega, by omega⟩, LV.le.refl _, rfl⟩, ?_⟩
    refine ⟨_, ⟨LV.le.refl _, rfl⟩, ?_⟩
    refine ⟨_, ⟨LV.le.refl _, rfl⟩, ?_⟩
    refine ⟨_, ⟨LV.le.refl _, rfl⟩, ?_⟩
    refine ⟨_, ⟨⟨by omega, by omega⟩, LV.le.refl _, rfl⟩, ?_⟩
    refine ⟨_, ⟨LV.le.refl _, rfl⟩, ?_⟩
    refine ⟨.v (.bool false), ⟨_, eqF_kept (a j).1 (b j).1 (a j).2 (b j).2, LV.le.bsV (by rw [ej]; simp), rfl⟩, ?_⟩
    refine ⟨True.intro, ?_⟩
    exact ⟨j + 1, (by omega : j + 1 ≤ n), (by omega : n - (j + 1) < n - j), .le ⟨rfl, ⟨rfl, Nat.le_refl _⟩, ⟨LV.le.int e11, rfl, LV.le.refl _, rfl, LV.le.refl _, rfl, trivial⟩, trivial⟩⟩
  · exact ⟨LV.le.refl _, rfl⟩
theorem same_ct (c : Int) (n0 n1 : Nat) (a0 a1 b0 b1 : KL) (r : List UInt8) (h0 : n0 ≤ 400) (h1 : n1 ≤ 400) (e0 : ∀ i, i < n0 → a0 i = b0 i) (e1 : ∀ i, i < n1 → a1 i = b1 i) :
    Ct Tryz.prog 18 [shot c n0 n1 a0 a1 r, shot c n0 n1 b0 b1 r] (.v (.bool true)) := by
  refine Ct.enter Tryz.tabOk ft18 ?_
  refine ⟨fun _ => ?_, fun h => absurd h (by simp)⟩
  refine ⟨fun _ => ?_, fun h => absurd h (by simp)⟩
  refine Ct.callC (kept_ct n0 a0 b0 h0 e0) rfl (leL.refl _) ?_
  refine Ct.callC (kept_ct n1 a1 b1 h1 e1) rfl (leL.refl _) ?_
  exact ⟨LV.le.refl _, rfl⟩
end Go.Proofs.Aw
namespace Go.Proofs.Aw
open Go Go.Proofs
theorem pN_nonneg {k : KL} {M : Nat} {n : Int} (hn : 0 ≤ n) : ∀ x, 0 ≤ pN k M n x
  | 0 => hn
  | x + 1 => by have := pN_nonneg (k := k) (M := M) hn x; simp only [pN]; split <;> omega
/-- so many and so many more are as many at once -/
theorem pN_add {k : KL} {w : TL} {M : Nat} {i j : Int} (hi : 0 ≤ i) (hj : 0 ≤ j) : ∀ x, pN k M (i + j) x = pN k M i x + pN (pK k w M i) M j x
  | 0 => rfl
  | x + 1 => by
    have ih := pN_add (k := k) (w := w) (M := M) hi hj x
    have p0 := pN_nonneg (k := k) (M := M) hi x
    have q0 := pN_nonneg (k := pK k w M i) (M := M) hj x
    simp only [pN]
    by_cases ho : (k x).1 = false ∧ x < M
    · by_cases hp : 0 < pN k M i x
      · have hc : 0 < pN k M i x ∧ (k x).1 = false ∧ x < M := ⟨hp, ho⟩
        have hk : (pK k w M i x).1 = true := by unfold pK; rw [if_pos hc]
        rw [if_pos (show 0 < pN k M (i + j) x ∧ _ from ⟨by omega, ho⟩), if_pos hc, if_neg (fun h => by rw [hk] at h; exact absurd h.2.1 (by simp))]
        omega
      · have hk : pK k w M i x = k x := by unfold pK; rw [if_neg fun h => hp h.1]
        rw [if_neg (show ¬ (0 < pN k M i x ∧ _) from fun h => hp h.1), hk]
        by_cases hq : 0 < pN (pK k w M i) M j x
        · rw [if_pos (show 0 < pN k M (i + j) x ∧ _ from ⟨by omega, ho⟩), if_pos ⟨hq, ho⟩]; omega
        · rw [if_neg fun h => hq (by omega), if_neg fun h => hq h.1]; omega
    · rw [if_neg fun h => ho h.2, if_neg fun h => ho h.2]
      have hk : pK k w M i x = k x := by unfold pK; rw [if_neg fun h => ho h.2]
      rw [hk, if_neg fun h => ho h.2]
      omega
theorem pK_add {k : KL} {w : TL} {M : Nat} {i j : Int} (hi : 0 ≤ i) (hj : 0 ≤ j) (x : Nat) : pK (pK k w M i) w M j x = pK k w M (i + j) x := by
  have ih := pN_add (k := k) (w := w) (M := M) hi hj x
  have p0 := pN_nonneg (k := k) (M := M) hi x
  have q0 := pN_nonneg (k := pK k w M i) (M := M) hj x
  by_cases ho : (k x).1 = false ∧ x < M
  · by_cases hp : 0 < pN k M i x
    · have hc : 0 < pN k M i x ∧ (k x).1 = false ∧ x < M := ⟨hp, ho⟩
      have hk : pK k w M i x = (true, w x) := by unfold pK; rw [if_pos hc]
      have h1 : pK (pK k w M i) w M j x = pK k w M i x := pK_is (by rw [hk])
      rw [h1, hk]
      unfold pK
      rw [if_pos ⟨by omega, ho⟩]
    · have hk : pK k w M i x = k x := by unfold pK; rw [if_neg fun h => hp h.1]
      by_cases hq : 0 < pN (pK k w M i) M j x
      · have h1 : pK (pK k w M i) w M j x = (true, w x) := by
          show (if _ then _ else _) = _
          rw [if_pos ⟨hq, by rw [hk]; exact ho⟩]
        rw [h1]
        unfold pK
        rw [if_pos ⟨by omega, ho⟩]
      · have h1 : pK (pK k w M i) w M j x = pK k w M i x := by
          show (if _ then _ else _) = _
          rw [if_neg fun h => hq h.1]
        rw [h1, hk]
        unfold pK
        rw [if_neg fun h => hq (by omega)]
  · have hk : pK k w M i x = k x := by unfold pK; rw [if_neg fun h => ho h.2]
    have h1 : pK (pK k w M i) w M j x = pK k w M i x := by
      show (if _ then _ else _) = _
      rw [if_neg fun h => ho (by rw [hk] at h; exact h.2)]
    rw [h1, hk]
    unfold pK
    rw [if_neg fun h => ho h.2]
/-- the second list is pumped with what the first one left over -/
theorem pN_congr {a b : KL} {M : Nat} {n : Int} (h : ∀ x, a x = b x) : ∀ x, pN a M n x = pN b M n x
  | 0 => rfl
  | x + 1 => by simp only [pN, pN_congr h x, h]
theorem pK_none {k : KL} {w : TL} {M : Nat} {n : Int} (hn : n ≤ 0) (x : Nat) : pK k w M n x = k x := by
  have := pN_le k M n x
  unfold pK
  rw [if_neg fun h => by omega]
theorem pN_max {k : KL} {M : Nat} {n : Int} (hn : 0 ≤ n) : ∀ x, x ≤ M → pN k M n x = max (n - cnt k x) 0
  | 0, _ => by simp only [pN, cnt]; omega
  | x + 1, hx => by
    have ih := pN_max (k := k) (M := M) hn x (by omega)
    simp only [pN, cnt]
    cases hk : (k x).1 with
    | true => simp; omega
    | false =>
      simp only [Bool.false_eq_true, if_false]
      by_cases hp : 0 < pN k M n x
      · rw [if_pos ⟨hp, trivial, by omega⟩]; omega
      · rw [if_neg fun h => hp h.1]; omega
theorem cnt_max {k : KL} {w : TL} {M : Nat} {n : Int} (hn : 0 ≤ n) : ∀ x, x ≤ M → (cnt (pK k w M n) x : Int) = max (cnt k x - n) 0
  | 0, _ => by simp only [cnt]; omega
  | x + 1, hx => by
    have ih := cnt_max (k := k) (w := w) (M := M) hn x (by omega)
    have hp := pN_max (k := k) (M := M) hn x (by omega)
    simp only [cnt]
    cases hk : (k x).1 with
    | true =>
      rw [pK_is hk, hk]
      simp only [if_true]
      omega
    | false =>
      by_cases hq : 0 < pN k M n x
      · have : (pK k w M n x).1 = true := by unfold pK; rw [if_pos ⟨hq, hk, by omega⟩]
        rw [this]
        simp only [if_true, Bool.false_eq_true, if_false]
        omega
      · have : pK k w M n x = k x := by unfold pK; rw [if_neg fun h => hq h.1]
        rw [this, hk]
        simp only [Bool.false_eq_true, if_false]
        omega
theorem cnt_cat {n0 : Nat} {k0 k1 : KL} : ∀ n1, cnt (catK n0 k0 k1) (n0 + n1) = cnt k0 n0 + cnt k1 n1
  | 0 => by
    have : ∀ x, x ≤ n0 → cnt (catK n0 k0 k1) x = cnt k0 x := by
      intro x
      induction x with
      | zero => intro _; rfl
      | succ x ih =>
        intro hx
        simp only [cnt, ih (by omega)]
        have : catK n0 k0 k1 x = k0 x := by unfold catK; rw [if_pos (by omega)]
        rw [this]
    simpa [cnt] using this n0 (Nat.le_refl _)
  | n1 + 1 => by
    have ih := cnt_cat (n0 := n0) (k0 := k0) (k1 := k1) n1
    show cnt (catK n0 k0 k1) (n0 + n1 + 1) = _
    simp only [cnt, ih]
    have : catK n0 k0 k1 (n0 + n1) = k1 n1 := by
      unfold catK
      rw [if_neg (by omega)]
      congr 1
      omega
    rw [this]
    omega
end Go.Proofs.Aw
namespace Go.Proofs.Aw
open Go Go.Proofs
set_option maxHeartbeats 8000000
set_option maxRecDepth 100000
theorem rleft_ct (n : Nat) (k : KL) (hn : n ≤ 400) : Ct Tryz.prog 59 [.sl 2 n (kv k)] (.v (.int .i64 (cnt k n : Int))) := by
  refine Ct.enter Tryz.tabOk ft59 ?_
  refine ⟨Nat, fun j => ⟨[(4, .v (.int .i64 (j : Int))), (3, .v (.int .i64 (cnt k j : Int))), (0, .sl 2 n (kv k))], [], 0, 0⟩, fun j => j ≤ n, fun j => n - j, 0, Nat.zero_le _,
    .le ⟨rfl, ⟨rfl, Nat.le_refl _⟩, ⟨LV.le.refl _, rfl, LV.le.refl _, rfl, LV.le.refl _, rfl, trivial⟩, trivial⟩, fun j hj => ⟨fun h => ?_, fun h => ?_⟩⟩
  · have h := dT h
    have h : (j : Int) < n := h
    have hcj := cnt_le k j
    have e13 : IntKind.i64.wrap ((j : Int) + 1) = ((j + 1 : Nat) : Int) := by rw [w64] <;> omega
    refine ⟨⟨by omega, by omega⟩, ⟨fun hb => ⟨j + 1, (by omega : j + 1 ≤ n), (by omega : n - (j + 1) < n - j), .le ⟨rfl, ⟨rfl, Nat.le_refl _⟩, ⟨LV.le.int e13, rfl, LV.le.int ?_, rfl, LV.le.refl _, rfl, trivial⟩, trivial⟩⟩,
      fun hb => ⟨j + 1, (by omega : j + 1 ≤ n), (by omega : n - (j + 1) < n - j), .le ⟨rfl, ⟨rfl, Nat.le_refl _⟩, ⟨LV.le.int e13, rfl, LV.le.int ?_, rfl, LV.le.refl _, rfl, trivial⟩, trivial⟩⟩⟩⟩
    · have hb : (!(k j).1) = true := hb
      have : (k j).1 = false := by simpa using hb
      rw [w64 (by omega) (by omega)]
      simp [cnt, this]
    · have hb : (!(k j).1) = false := hb
      have : (k j).1 = true := by simpa using hb
      simp [cnt, this]
  · have hj : j ≤ n := hj
    obtain rfl : j = n := by have := dF h; omega
    exact ⟨LV.le.refl _, rfl⟩
theorem rLeft_ct (c : Int) (n0 n1 : Nat) (k0 k1 : KL) (r : List UInt8) (h0 : n0 ≤ 400) (h1 : n1 ≤ 400) : Ct Tryz.prog 22 [shot c n0 n1 k0 k1 r] (.v (.int .i64 (cnt (catK n0 k0 k1) (n0 + n1) : Int))) := by
  have b0 := cnt_le k0 n0
  have b1 := cnt_le k1 n1
  have e := cnt_cat (n0 := n0) (k0 := k0) (k1 := k1) n1
  refine Ct.enter Tryz.tabOk ft22 ?_
  refine DrawA.run Tryz.tabOk Tryz.mixed [0, 1, 3, 0, 8, 31, 63, 127] [] rfl ?_
  refine ⟨_, ⟨LV.le.refl _, rfl⟩, ?_⟩
  refine ⟨_, ⟨LV.le.refl _, rfl⟩, ?_⟩
  refine ⟨_, Ct.callC (rleft_ct n0 k0 h0) rfl (leL.refl _) ⟨LV.le.refl _, rfl⟩, ?_⟩
  refine ⟨_, ⟨LV.le.refl _, rfl⟩, ?_⟩
  refine ⟨_, ⟨LV.le.refl _, rfl⟩, ?_⟩
  refine ⟨_, Ct.callC (rleft_ct n1 k1 h1) rfl (leL.refl _) ⟨LV.le.refl _, rfl⟩, ?_⟩
  refine ⟨.v (.int .i64 (cnt (catK n0 k0 k1) (n0 + n1) : Int)), ⟨LV.le.int (by rw [w64 (by omega) (by omega), e]; omega), rfl⟩, ?_⟩
  refine ⟨_, ⟨LV.le.refl _, rfl⟩, ?_⟩
  refine ⟨True.intro, ?_⟩
  exact ⟨LV.le.refl _, rfl⟩
/-- one element more -/
theorem snocL {j : Nat} {g : Nat → List LV} {c : List LV} {sz : Nat} (hc : leL ((c.drop (0 * sz)).take sz) (g j)) : ∀ i, i < j + 1 → leL (match Nat.blt i j with | true => g i | false => (c.drop ((i - j) * sz)).take sz) (g i) := by
  intro i hi
  rcases Nat.lt_or_ge i j with h | h
  · have hb := Nat.blt_eq.mpr h
    simp only [hb]
    exact leL.refl _
  · obtain rfl : i = j := by omega
    simp only [bltF, Nat.sub_self]
    exact hc
theorem wK_stay {k : KL} {w w' : TL} {M M' j : Nat} (h : ¬ (j < M ∧ (k j).1 = false ∧ (M' ≤ j ∨ w' j ≠ w j))) : kv (wK k w w' M M') j = [.bs (k j).1, .str (k j).2] := by
  simp only [kv, wK]; rw [if_neg h]
theorem wK_turn {k : KL} {w w' : TL} {M M' j : Nat} (h : j < M ∧ (k j).1 = false ∧ (M' ≤ j ∨ w' j ≠ w j)) : kv (wK k w w' M M') j = [.bs true, .str (w j)] := by
  simp only [kv, wK]; rw [if_pos h]
theorem rwent_ct (L M M' : Nat) (k : KL) (w w' : TL) (hL : L ≤ 400) (_hM : M ≤ 400) (_hM' : M' ≤ 400) : Ct Tryz.prog 63 [.sl 2 L (kv k), .sl 1 M (tx w), .sl 1 M' (tx w')] (.sl 2 L (kv (wK k w w' M M'))) := by
  refine Ct.enter Tryz.tabOk ft63 ?_
  refine ⟨Nat, fun j => ⟨[(8, .v (.int .i64 (j : Int))), (7, .ls 0 j), (0, .sl 2 L (kv k)), (1, .sl 1 M (tx w)), (2, .sl 1 M' (tx w'))], [(0, .arr 101 2 j (kv (wK k w w' M M')))], 1, 0⟩, fun j => j ≤ L, fun j => L - j, 0, Nat.zero_le _,
    .own (ty := 101) (sz := 2) ⟨rfl, rfl, ⟨.refl _, rfl, .nil, rfl, .refl _, rfl, .refl _, rfl, .refl _, rfl, trivial⟩, ⟨⟨_, rfl, .of (LO.le.arr rfl fun i hi => absurd hi (by omega))⟩, rfl, rfl, trivial⟩⟩, fun j hj => ⟨fun h => ?_, fun h => ?_⟩⟩
  · have h := dT h
    have h : (j : Int) < L := h
    have e11 : IntKind.i64.wrap ((j : Int) + 1) = ((j + 1 : Nat) : Int) := by rw [w64] <;> omega
    refine ⟨⟨by omega, by omega⟩, ?_⟩
    cases hk : (k j).1 with
    | true =>
      refine DrawA.run Tryz.tabOk Tryz.mixed [0, 1, 3, 7, 15, 15, 47, 127, 255, 511, 1023, 1023, 3071, 8191, 16383, 32767, 32767, 131071, 262143, 32767, 32767, 1605631, 3702783, 8388607, 16777215, 33554431] [] rfl ?_
      refine ⟨_, ⟨LV.le.refl _, rfl⟩, ?_⟩
      refine ⟨_, ⟨LV.le.refl _, rfl⟩, ?_⟩
      refine ⟨.v (.bool false), ⟨LV.le.bsV (by simp [hk]), rfl⟩, ?_⟩
      refine ⟨_, ⟨LV.le.refl _, rfl⟩, ?_⟩
      refine ⟨_, ⟨LV.le.refl _, rfl⟩, ?_⟩
      refine ⟨_, ⟨LV.le.refl _, rfl⟩, ?_⟩
      refine ⟨_, ⟨LV.le.refl _, rfl⟩, ?_⟩
      refine ⟨_, ⟨LV.le.refl _, rfl⟩, ?_⟩
      refine ⟨_, ⟨LV.le.refl _, rfl⟩, ?_⟩
      refine ⟨_, ⟨LV.le.refl _, rfl⟩, ?_⟩
      refine ⟨_, ⟨LV.le.refl _, rfl⟩, ?_⟩
      refine ⟨_, ⟨LV.le.refl _, rfl⟩, ?_⟩
      refine ⟨_, ⟨LV.le.refl _, rfl⟩, ?_⟩
      refine ⟨_, ⟨LV.le.refl _, rfl⟩, ?_⟩
      refine ⟨_, ⟨LV.le.refl _, rfl⟩, ?_⟩
      refine ⟨_, ⟨LV.le.refl _, rfl⟩, ?_⟩
      refine ⟨_, ⟨LV.le.refl _, rfl⟩, ?_⟩
      refine ⟨_, ⟨LV.le.refl _, rfl⟩, ?_⟩
      refine ⟨_, ⟨LV.le.refl _, rfl⟩, ?_⟩
      refine ⟨_, ⟨LV.le.refl _, rfl⟩, ?_⟩
      refine ⟨_, ⟨LV.le.refl _, rfl⟩, ?_⟩
      refine ⟨_, ⟨LV.le.refl _, rfl⟩, ?_⟩
      refine ⟨_, ⟨LV.le.refl _, rfl⟩, ?_⟩
      refine ⟨_, ⟨LV.le.refl _, rfl⟩, ?_⟩
      refine ⟨_, ⟨LV.le.refl _, rfl⟩, ?_⟩
      refine ⟨_, ⟨LV.le.refl _, rfl⟩, ?_⟩
      refine ⟨True.intro, ?_⟩
      exact ⟨by show (j + 1) * 24 ≤ _; omega, by show j + 1 ≤ _; omega, ⟨j + 1, (by omega : j + 1 ≤ L), (by omega : L - (j + 1) < L - j), .ren (a := 0) (b := 3) ⟨rfl, ⟨rfl, rfl, rfl, Nat.le_of_ble_eq_true rfl⟩, ⟨LV.le.int e11, rfl, LV.le.refl _, rfl, LV.le.refl _, rfl, LV.le.refl _, rfl, LV.le.refl _, rfl, trivial⟩, ⟨⟨_, rfl, LO.le.arrL rfl fun i hi => snocL (by rw [wK_stay (by rw [hk]; simp)]; exact leL.refl _) i hi⟩, rfl, rfl, trivial⟩⟩⟩⟩
    | false =>
      by_cases hM1 : j < M
      rotate_left
      · refine DrawA.run Tryz.tabOk Tryz.mixed [0, 1, 3, 7, 15, 15, 47, 127, 255, 511, 1023, 1023, 3071, 8191, 16383, 32767, 32767, 131071, 262143, 32767, 32767, 1605631, 3702783, 8388607, 16777215, 33554431] [] rfl ?_
        refine ⟨_, ⟨LV.le.refl _, rfl⟩, ?_⟩
        refine ⟨_, ⟨LV.le.refl _, rfl⟩, ?_⟩
        refine ⟨.v (.bool true), ⟨LV.le.bsV (by simp [hk]), rfl⟩, ?_⟩
        refine ⟨_, ⟨LV.le.refl _, rfl⟩, ?_⟩
        refine ⟨_, ⟨LV.le.refl _, rfl⟩, ?_⟩
        refine ⟨_, ⟨LV.le.refl _, rfl⟩, ?_⟩
        refine ⟨_, ⟨LV.le.refl _, rfl⟩, ?_⟩
        refine ⟨.v (.bool false), ⟨LV.le.bsV (decide_eq_false (by omega)), rfl⟩, ?_⟩
        refine ⟨_, ⟨LV.le.refl _, rfl⟩, ?_⟩
        refine ⟨_, ⟨LV.le.refl _, rfl⟩, ?_⟩
        refine ⟨_, ⟨LV.le.refl _, rfl⟩, ?_⟩
        refine ⟨_, ⟨LV.le.refl _, rfl⟩, ?_⟩
        refine ⟨_, ⟨LV.le.refl _, rfl⟩, ?_⟩
        refine ⟨_, ⟨LV.le.refl _, rfl⟩, ?_⟩
        refine ⟨_, ⟨LV.le.refl _, rfl⟩, ?_⟩
        refine ⟨_, ⟨LV.le.refl _, rfl⟩, ?_⟩
        refine ⟨_, ⟨LV.le.refl _, rfl⟩, ?_⟩
        refine ⟨_, ⟨LV.le.refl _, rfl⟩, ?_⟩
        refine ⟨_, ⟨LV.le.refl _, rfl⟩, ?_⟩
        refine ⟨_, ⟨LV.le.refl _, rfl⟩, ?_⟩
        refine ⟨_, ⟨LV.le.refl _, rfl⟩, ?_⟩
        refine ⟨_, ⟨LV.le.refl _, rfl⟩, ?_⟩
        refine ⟨_, ⟨LV.le.refl _, rfl⟩, ?_⟩
        refine ⟨_, ⟨LV.le.refl _, rfl⟩, ?_⟩
        refine ⟨_, ⟨LV.le.refl _, rfl⟩, ?_⟩
        refine ⟨_, ⟨LV.le.refl _, rfl⟩, ?_⟩
        refine ⟨True.intro, ?_⟩
        exact ⟨by show (j + 1) * 24 ≤ _; omega, by show j + 1 ≤ _; omega, ⟨j + 1, (by omega : j + 1 ≤ L), (by omega : L - (j + 1) < L - j), .ren (a := 0) (b := 3) ⟨rfl, ⟨rfl, rfl, rfl, Nat.le_of_ble_eq_true rfl⟩, ⟨LV.le.int e11, rfl, LV.le.refl _, rfl, LV.le.refl _, rfl, LV.le.refl _, rfl, LV.le.refl _, rfl, trivial⟩, ⟨⟨_, rfl, LO.le.arrL rfl fun i hi => snocL (by rw [wK_stay (fun hc => hM1 hc.1)]; exact leL.refl _) i hi⟩, rfl, rfl, trivial⟩⟩⟩⟩

      by_cases hM2 : M' ≤ j
      · refine DrawA.run Tryz.tabOk Tryz.mixed [0, 1, 3, 7, 15, 15, 47, 127, 255, 511, 1023, 1023, 3071, 8191, 16383, 32767, 32767, 131071, 262143, 32767, 32767, 1605631, 3702783, 8388607, 16777215, 33554431] [] rfl ?_
        refine ⟨_, ⟨LV.le.refl _, rfl⟩, ?_⟩
        refine ⟨_, ⟨LV.le.refl _, rfl⟩, ?_⟩
        refine ⟨.v (.bool true), ⟨LV.le.bsV (by simp [hk]), rfl⟩, ?_⟩
        refine ⟨_, ⟨LV.le.refl _, rfl⟩, ?_⟩
        refine ⟨_, ⟨LV.le.refl _, rfl⟩, ?_⟩
        refine ⟨_, ⟨LV.le.refl _, rfl⟩, ?_⟩
        refine ⟨_, ⟨LV.le.refl _, rfl⟩, ?_⟩
        refine ⟨.v (.bool true), ⟨LV.le.bsV (decide_eq_true (by omega)), rfl⟩, ?_⟩
        refine ⟨_, ⟨LV.le.refl _, rfl⟩, ?_⟩
        refine ⟨_, ⟨LV.le.refl _, rfl⟩, ?_⟩
        refine ⟨_, ⟨LV.le.refl _, rfl⟩, ?_⟩
        refine ⟨_, ⟨LV.le.refl _, rfl⟩, ?_⟩
        refine ⟨_, ⟨LV.le.refl _, rfl⟩, ?_⟩
        refine ⟨.v (.bool true), ⟨LV.le.bsV (decide_eq_true (by omega)), rfl⟩, ?_⟩
        refine ⟨_, ⟨LV.le.refl _, rfl⟩, ?_⟩
        refine ⟨_, ⟨LV.le.refl _, rfl⟩, ?_⟩
        refine ⟨_, ⟨LV.le.refl _, rfl⟩, ?_⟩
        refine ⟨_, ⟨LV.le.refl _, rfl⟩, ?_⟩
        refine ⟨_, ⟨LV.le.refl _, rfl⟩, ?_⟩
        refine ⟨_, ⟨LV.le.refl _, rfl⟩, ?_⟩
        refine ⟨_, ⟨LV.le.refl _, rfl⟩, ?_⟩
        refine ⟨_, ⟨LV.le.refl _, rfl⟩, ?_⟩
        refine ⟨_, ⟨LV.le.refl _, rfl⟩, ?_⟩
        refine ⟨_, ⟨LV.le.refl _, rfl⟩, ?_⟩
        refine ⟨_, ⟨LV.le.refl _, rfl⟩, ?_⟩
        refine ⟨_, ⟨LV.le.refl _, rfl⟩, ?_⟩
        refine ⟨True.intro, ?_⟩
        refine ⟨⟨by omega, by omega⟩, ?_⟩
        exact ⟨by show (j + 1) * 24 ≤ _; omega, by show j + 1 ≤ _; omega, ⟨j + 1, (by omega : j + 1 ≤ L), (by omega : L - (j + 1) < L - j), .ren (a := 0) (b := 3) ⟨rfl, ⟨rfl, rfl, rfl, Nat.le_of_ble_eq_true rfl⟩, ⟨LV.le.int e11, rfl, LV.le.refl _, rfl, LV.le.refl _, rfl, LV.le.refl _, rfl, LV.le.refl _, rfl, trivial⟩, ⟨⟨_, rfl, LO.le.arrL rfl fun i hi => snocL (by rw [wK_turn (⟨hM1, hk, .inl hM2⟩)]; exact ⟨_, _, rfl, LV.le.bs true, leL.refl _⟩) i hi⟩, rfl, rfl, trivial⟩⟩⟩⟩

      by_cases hw : w j = w' j
      · refine DrawA.run Tryz.tabOk Tryz.mixed [0, 1, 3, 7, 15, 15, 47, 127, 255, 511, 1023, 1023, 3071, 8191, 16383, 32767, 32767, 131071, 262143, 32767, 32767, 1605631, 3702783, 8388607, 16777215, 33554431] [] rfl ?_
        refine ⟨_, ⟨LV.le.refl _, rfl⟩, ?_⟩
        refine ⟨_, ⟨LV.le.refl _, rfl⟩, ?_⟩
        refine ⟨.v (.bool true), ⟨LV.le.bsV (by simp [hk]), rfl⟩, ?_⟩
        refine ⟨_, ⟨LV.le.refl _, rfl⟩, ?_⟩
        refine ⟨_, ⟨LV.le.refl _, rfl⟩, ?_⟩
        refine ⟨_, ⟨LV.le.refl _, rfl⟩, ?_⟩
        refine ⟨_, ⟨LV.le.refl _, rfl⟩, ?_⟩
        refine ⟨.v (.bool true), ⟨LV.le.bsV (decide_eq_true (by omega)), rfl⟩, ?_⟩
        refine ⟨_, ⟨LV.le.refl _, rfl⟩, ?_⟩
        refine ⟨_, ⟨LV.le.refl _, rfl⟩, ?_⟩
        refine ⟨_, ⟨LV.le.refl _, rfl⟩, ?_⟩
        refine ⟨_, ⟨LV.le.refl _, rfl⟩, ?_⟩
        refine ⟨_, ⟨LV.le.refl _, rfl⟩, ?_⟩
        refine ⟨.v (.bool false), ⟨LV.le.bsV (decide_eq_false (by omega)), rfl⟩, ?_⟩
        refine ⟨_, ⟨LV.le.refl _, rfl⟩, ?_⟩
        refine ⟨_, ⟨LV.le.refl _, rfl⟩, ?_⟩
        refine ⟨_, ⟨LV.le.refl _, rfl⟩, ?_⟩
        refine ⟨_, ⟨⟨by omega, by omega⟩, LV.le.refl _, rfl⟩, ?_⟩
        refine ⟨_, ⟨LV.le.refl _, rfl⟩, ?_⟩
        refine ⟨_, ⟨LV.le.refl _, rfl⟩, ?_⟩
        refine ⟨_, ⟨LV.le.refl _, rfl⟩, ?_⟩
        refine ⟨_, ⟨⟨by omega, by omega⟩, LV.le.refl _, rfl⟩, ?_⟩
        refine ⟨_, ⟨LV.le.refl _, rfl⟩, ?_⟩
        refine ⟨.v (.bool false), ⟨LV.le.bsV (by show (w j != w' j) = false; rw [hw]; simp), rfl⟩, ?_⟩
        refine ⟨_, ⟨LV.le.refl _, rfl⟩, ?_⟩
        refine ⟨_, ⟨LV.le.refl _, rfl⟩, ?_⟩
        refine ⟨True.intro, ?_⟩
        exact ⟨by show (j + 1) * 24 ≤ _; omega, by show j + 1 ≤ _; omega, ⟨j + 1, (by omega : j + 1 ≤ L), (by omega : L - (j + 1) < L - j), .ren (a := 0) (b := 3) ⟨rfl, ⟨rfl, rfl, rfl, Nat.le_of_ble_eq_true rfl⟩, ⟨LV.le.int e11, rfl, LV.le.refl _, rfl, LV.le.refl _, rfl, LV.le.refl _, rfl, LV.le.refl _, rfl, trivial⟩, ⟨⟨_, rfl, LO.le.arrL rfl fun i hi => snocL (by rw [wK_stay (fun hc => by rcases hc.2.2 with h3 | h3; exact hM2 h3; exact h3 hw.symm)]; exact leL.refl _) i hi⟩, rfl, rfl, trivial⟩⟩⟩⟩

      · refine DrawA.run Tryz.tabOk Tryz.mixed [0, 1, 3, 7, 15, 15, 47, 127, 255, 511, 1023, 1023, 3071, 8191, 16383, 32767, 32767, 131071, 262143, 32767, 32767, 1605631, 3702783, 8388607, 16777215, 33554431] [] rfl ?_
        refine ⟨_, ⟨LV.le.refl _, rfl⟩, ?_⟩
        refine ⟨_, ⟨LV.le.refl _, rfl⟩, ?_⟩
        refine ⟨.v (.bool true), ⟨LV.le.bsV (by simp [hk]), rfl⟩, ?_⟩
        refine ⟨_, ⟨LV.le.refl _, rfl⟩, ?_⟩
        refine ⟨_, ⟨LV.le.refl _, rfl⟩, ?_⟩
        refine ⟨_, ⟨LV.le.refl _, rfl⟩, ?_⟩
        refine ⟨_, ⟨LV.le.refl _, rfl⟩, ?_⟩
        refine ⟨.v (.bool true), ⟨LV.le.bsV (decide_eq_true (by omega)), rfl⟩, ?_⟩
        refine ⟨_, ⟨LV.le.refl _, rfl⟩, ?_⟩
        refine ⟨_, ⟨LV.le.refl _, rfl⟩, ?_⟩
        refine ⟨_, ⟨LV.le.refl _, rfl⟩, ?_⟩
        refine ⟨_, ⟨LV.le.refl _, rfl⟩, ?_⟩
        refine ⟨_, ⟨LV.le.refl _, rfl⟩, ?_⟩
        refine ⟨.v (.bool false), ⟨LV.le.bsV (decide_eq_false (by omega)), rfl⟩, ?_⟩
        refine ⟨_, ⟨LV.le.refl _, rfl⟩, ?_⟩
        refine ⟨_, ⟨LV.le.refl _, rfl⟩, ?_⟩
        refine ⟨_, ⟨LV.le.refl _, rfl⟩, ?_⟩
        refine ⟨_, ⟨⟨by omega, by omega⟩, LV.le.refl _, rfl⟩, ?_⟩
        refine ⟨_, ⟨LV.le.refl _, rfl⟩, ?_⟩
        refine ⟨_, ⟨LV.le.refl _, rfl⟩, ?_⟩
        refine ⟨_, ⟨LV.le.refl _, rfl⟩, ?_⟩
        refine ⟨_, ⟨⟨by omega, by omega⟩, LV.le.refl _, rfl⟩, ?_⟩
        refine ⟨_, ⟨LV.le.refl _, rfl⟩, ?_⟩
        refine ⟨.v (.bool true), ⟨LV.le.bsV (by show (w j != w' j) = true; simp [hw]), rfl⟩, ?_⟩
        refine ⟨_, ⟨LV.le.refl _, rfl⟩, ?_⟩
        refine ⟨_, ⟨LV.le.refl _, rfl⟩, ?_⟩
        refine ⟨True.intro, ?_⟩
        refine ⟨⟨by omega, by omega⟩, ?_⟩
        exact ⟨by show (j + 1) * 24 ≤ _; omega, by show j + 1 ≤ _; omega, ⟨j + 1, (by omega : j + 1 ≤ L), (by omega : L - (j + 1) < L - j), .ren (a := 0) (b := 3) ⟨rfl, ⟨rfl, rfl, rfl, Nat.le_of_ble_eq_true rfl⟩, ⟨LV.le.int e11, rfl, LV.le.refl _, rfl, LV.le.refl _, rfl, LV.le.refl _, rfl, LV.le.refl _, rfl, trivial⟩, ⟨⟨_, rfl, LO.le.arrL rfl fun i hi => snocL (by rw [wK_turn (⟨hM1, hk, .inr fun h3 => hw h3.symm⟩)]; exact ⟨_, _, rfl, LV.le.bs true, leL.refl _⟩) i hi⟩, rfl, rfl, trivial⟩⟩⟩⟩

  · have hj : j ≤ L := hj
    obtain rfl : j = L := by have := dF h; omega
    exact ⟨LV.le.refl _, rfl⟩
end Go.Proofs.Aw
namespace Go.Proofs.Aw
open Go Go.Proofs
set_option maxHeartbeats 8000000
set_option maxRecDepth 100000
theorem rWent_ct (c : Int) (n0 n1 M0 M0' M1 M1' : Nat) (k0 k1 : KL) (r : List UInt8) (w0 w0' w1 w1' : TL) (h0 : n0 ≤ 400) (h1 : n1 ≤ 400) (hM0 : M0 ≤ 400) (hM0' : M0' ≤ 400) (hM1 : M1 ≤ 400) (hM1' : M1' ≤ 400) :
    Ct Tryz.prog 24 [shot c n0 n1 k0 k1 r, .agg (macK M0 M1 w0 w1), .agg (macK M0' M1' w0' w1')] (shot c n0 n1 (wK k0 w0 w0' M0 M0') (wK k1 w1 w1' M1 M1') r) := by
  refine Ct.enter Tryz.tabOk ft24 ?_
  refine Ct.callC (rwent_ct n0 M0 M0' k0 w0 w0' h0 hM0 hM0') rfl (leL.refl _) ?_
  refine Ct.callC (rwent_ct n1 M1 M1' k1 w1 w1' h1 hM1 hM1') rfl (leL.refl _) ?_
  exact ⟨LV.le.refl _, rfl⟩
theorem pK_stay {k : KL} {w : TL} {M j : Nat} {n : Int} (h : ¬ (0 < pN k M n j ∧ (k j).1 = false ∧ j < M)) : kv (pK k w M n) j = [.bs (k j).1, .str (k j).2] ∧ pN k M n (j + 1) = pN k M n j := by
  simp only [kv, pK, pN]; rw [if_neg h, if_neg h]; exact ⟨rfl, rfl⟩
theorem pK_turn {k : KL} {w : TL} {M j : Nat} {n : Int} (h : 0 < pN k M n j ∧ (k j).1 = false ∧ j < M) : kv (pK k w M n) j = [.bs true, .str (w j)] ∧ pN k M n (j + 1) = pN k M n j - 1 := by
  simp only [kv, pK, pN]; rw [if_pos h, if_pos h]; exact ⟨rfl, rfl⟩
theorem rpump_ct (L M : Nat) (k : KL) (w : TL) (n : Int) (hL : L ≤ 400) (_hM : M ≤ 400) (hn : n ≤ 9223372036854775807) : Ct Tryz.prog 66 [.sl 2 L (kv k), .sl 1 M (tx w), .v (.int .i64 n)] (.tup [.sl 2 L (kv (pK k w M n)), .v (.int .i64 (pN k M n L))]) := by
  refine Ct.enter Tryz.tabOk ft66 ?_
  refine ⟨Nat, fun j => ⟨[(9, .v (.int .i64 (j : Int))), (8, .ls 0 j), (2, .v (.int .i64 (pN k M n j))), (0, .sl 2 L (kv k)), (1, .sl 1 M (tx w))], [(0, .arr 101 2 j (kv (pK k w M n)))], 1, 0⟩, fun j => j ≤ L, fun j => L - j, 0, Nat.zero_le _,
    .own (ty := 101) (sz := 2) ⟨rfl, rfl, ⟨.refl _, rfl, .nil, rfl, .refl _, rfl, .refl _, rfl, .refl _, rfl, trivial⟩, ⟨⟨_, rfl, .of (LO.le.arr rfl fun i hi => absurd hi (by omega))⟩, rfl, rfl, trivial⟩⟩, fun j hj => ⟨fun h => ?_, fun h => ?_⟩⟩
  · have h := dT h
    have h : (j : Int) < L := h
    have e11 : IntKind.i64.wrap ((j : Int) + 1) = ((j + 1 : Nat) : Int) := by rw [w64] <;> omega
    have hpn := pN_le k M n j
    refine ⟨⟨by omega, by omega⟩, ⟨fun a1 => ⟨fun a2 => ⟨fun a3 => ?_, fun a3 => ?_⟩, fun a2 => ?_⟩, fun a1 => ?_⟩⟩
    · have a1 := dT a1
      have a1 : pN k M n j > 0 := a1
      have a2 : (!(k j).1) = true := a2
      have a3 := dT a3
      have a3 : (j : Int) < M := a3
      have hc := pK_turn (w := w) (k := k) (M := M) (j := j) (n := n) ⟨a1, by simpa using a2, by omega⟩
      refine ⟨⟨by omega, by omega⟩, by show (j + 1) * 24 ≤ _; omega, by show j + 1 ≤ _; omega, ⟨j + 1, (by omega : j + 1 ≤ L), (by omega : L - (j + 1) < L - j), .ren (a := 0) (b := 3) ⟨rfl, ⟨rfl, rfl, rfl, Nat.le_of_ble_eq_true rfl⟩, ⟨LV.le.int e11, rfl, LV.le.refl _, rfl, LV.le.int (by rw [hc.2, w64 (by omega) (by omega)]), rfl, LV.le.refl _, rfl, LV.le.refl _, rfl, trivial⟩, ⟨⟨_, rfl, LO.le.arrL rfl fun i hi => snocL (by rw [hc.1]; exact ⟨_, _, rfl, LV.le.bs true, leL.refl _⟩) i hi⟩, rfl, rfl, trivial⟩⟩⟩⟩
    · have a3 := dF a3
      have a3 : ¬ (j : Int) < M := a3
      have hc := pK_stay (w := w) (k := k) (M := M) (j := j) (n := n) (fun hh => a3 (by omega))
      exact ⟨by show (j + 1) * 24 ≤ _; omega, by show j + 1 ≤ _; omega, ⟨j + 1, (by omega : j + 1 ≤ L), (by omega : L - (j + 1) < L - j), .ren (a := 0) (b := 3) ⟨rfl, ⟨rfl, rfl, rfl, Nat.le_of_ble_eq_true rfl⟩, ⟨LV.le.int e11, rfl, LV.le.refl _, rfl, LV.le.int hc.2.symm, rfl, LV.le.refl _, rfl, LV.le.refl _, rfl, trivial⟩, ⟨⟨_, rfl, LO.le.arrL rfl fun i hi => snocL (by rw [hc.1]; exact leL.refl _) i hi⟩, rfl, rfl, trivial⟩⟩⟩⟩
    · have a2 : (!(k j).1) = false := a2
      have hc := pK_stay (w := w) (k := k) (M := M) (j := j) (n := n) (fun hh => by rw [hh.2.1] at a2; simp at a2)
      exact ⟨by show (j + 1) * 24 ≤ _; omega, by show j + 1 ≤ _; omega, ⟨j + 1, (by omega : j + 1 ≤ L), (by omega : L - (j + 1) < L - j), .ren (a := 0) (b := 3) ⟨rfl, ⟨rfl, rfl, rfl, Nat.le_of_ble_eq_true rfl⟩, ⟨LV.le.int e11, rfl, LV.le.refl _, rfl, LV.le.int hc.2.symm, rfl, LV.le.refl _, rfl, LV.le.refl _, rfl, trivial⟩, ⟨⟨_, rfl, LO.le.arrL rfl fun i hi => snocL (by rw [hc.1]; exact leL.refl _) i hi⟩, rfl, rfl, trivial⟩⟩⟩⟩
    · have a1 := dF a1
      have a1 : ¬ pN k M n j > 0 := a1
      have hc := pK_stay (w := w) (k := k) (M := M) (j := j) (n := n) (fun hh => a1 hh.1)
      exact ⟨by show (j + 1) * 24 ≤ _; omega, by show j + 1 ≤ _; omega, ⟨j + 1, (by omega : j + 1 ≤ L), (by omega : L - (j + 1) < L - j), .ren (a := 0) (b := 3) ⟨rfl, ⟨rfl, rfl, rfl, Nat.le_of_ble_eq_true rfl⟩, ⟨LV.le.int e11, rfl, LV.le.refl _, rfl, LV.le.int hc.2.symm, rfl, LV.le.refl _, rfl, LV.le.refl _, rfl, trivial⟩, ⟨⟨_, rfl, LO.le.arrL rfl fun i hi => snocL (by rw [hc.1]; exact leL.refl _) i hi⟩, rfl, rfl, trivial⟩⟩⟩⟩
  · have hj : j ≤ L := hj
    obtain rfl : j = L := by have := dF h; omega
    exact ⟨LV.le.refl _, rfl⟩
theorem rPump_ct (c n : Int) (n0 n1 M0 M1 : Nat) (k0 k1 : KL) (r : List UInt8) (w0 w1 : TL) (h0 : n0 ≤ 400) (h1 : n1 ≤ 400) (hM0 : M0 ≤ 400) (hM1 : M1 ≤ 400) (hn : n ≤ 9223372036854775807) :
    Ct Tryz.prog 26 [shot c n0 n1 k0 k1 r, .agg (macK M0 M1 w0 w1), .v (.int .i64 n)] (shot c n0 n1 (pK k0 w0 M0 n) (pK k1 w1 M1 (pN k0 M0 n n0)) r) := by
  have := pN_le k0 M0 n n0
  refine Ct.enter Tryz.tabOk ft26 ?_
  refine Ct.callC (rpump_ct n0 M0 k0 w0 n h0 hM0 hn) rfl (leL.refl _) ?_
  refine Ct.callC (rpump_ct n1 M1 k1 w1 (pN k0 M0 n n0) h1 hM1 (by omega)) rfl (leL.refl _) ?_
  exact ⟨LV.le.refl _, rfl⟩
theorem rall_ct (n : Nat) (k : KL) (hn : n ≤ 400) : Ct Tryz.prog 67 [.sl 2 n (kv k)] (.sl 1 n (tx (dat k))) := by
  refine Ct.enter Tryz.tabOk ft67 ?_
  refine ⟨Nat, fun j => ⟨[(4, .v (.int .i64 (j : Int))), (3, .ls 0 j), (0, .sl 2 n (kv k))], [(0, .arr 9 1 j (tx (dat k)))], 1, 0⟩, fun j => j ≤ n, fun j => n - j, 0, Nat.zero_le _,
    .own (ty := 9) (sz := 1) ⟨rfl, rfl, ⟨.refl _, rfl, .nil, rfl, .refl _, rfl, trivial⟩, ⟨⟨_, rfl, .of (LO.le.arr rfl fun i hi => absurd hi (by omega))⟩, rfl, rfl, trivial⟩⟩, fun j hj => ⟨fun h => ?_, fun h => ?_⟩⟩
  · have h := dT h
    have h : (j : Int) < n := h
    have e11 : IntKind.i64.wrap ((j : Int) + 1) = ((j + 1 : Nat) : Int) := by rw [w64] <;> omega
    exact ⟨⟨by omega, by omega⟩, by show (j + 1) * 16 ≤ _; omega, by show j + 1 ≤ _; omega, ⟨j + 1, (by omega : j + 1 ≤ n), (by omega : n - (j + 1) < n - j), .ren (a := 0) (b := 2) ⟨rfl, ⟨rfl, rfl, rfl, Nat.le_of_ble_eq_true rfl⟩, ⟨LV.le.int e11, rfl, LV.le.refl _, rfl, LV.le.refl _, rfl, trivial⟩, ⟨⟨_, rfl, LO.le.arrL rfl fun i hi => snocL (leL.refl _) i hi⟩, rfl, rfl, trivial⟩⟩⟩⟩
  · have hj : j ≤ n := hj
    obtain rfl : j = n := by have := dF h; omega
    exact ⟨LV.le.refl _, rfl⟩
theorem rImage_busy (c : Int) (n0 n1 : Nat) (k0 k1 : KL) (r : List UInt8) (h0 : n0 ≤ 400) (h1 : n1 ≤ 400) (hc : 0 < cnt (catK n0 k0 k1) (n0 + n1)) :
    Ct Tryz.prog 28 [shot c n0 n1 k0 k1 r] (.tup [imgV (.v (.slice none 0 0)) (.v (.slice none 0 0)) [], .v (.int .i64 12)]) := by
  refine Ct.enter Tryz.tabOk ft28 ?_
  refine Ct.callC (rLeft_ct c n0 n1 k0 k1 r h0 h1) rfl (leL.refl _) ?_
  refine ⟨fun h => ?_, fun h => absurd (dF h) (by show ¬ ¬ (0 : Int) < (cnt (catK n0 k0 k1) (n0 + n1) : Int); omega)⟩
  exact ⟨LV.le.refl _, rfl⟩
theorem rImage_all (c : Int) (n0 n1 : Nat) (k0 k1 : KL) (r : List UInt8) (h0 : n0 ≤ 400) (h1 : n1 ≤ 400) (hc : cnt (catK n0 k0 k1) (n0 + n1) = 0) :
    Ct Tryz.prog 28 [shot c n0 n1 k0 k1 r] (.tup [imgV (.sl 1 n0 (tx (dat k0))) (.sl 1 n1 (tx (dat k1))) r, .v (.int .i64 0)]) := by
  refine Ct.enter Tryz.tabOk ft28 ?_
  refine Ct.callC (rLeft_ct c n0 n1 k0 k1 r h0 h1) rfl (leL.refl _) ?_
  refine ⟨fun h => absurd (dT h) (by rw [hc]; decide), fun h => ?_⟩
  refine DrawA.run Tryz.tabOk Tryz.mixed [0, 1, 3, 0, 8, 31, 0, 64, 255, 511, 1023] [9] rfl ?_
  refine ⟨_, ⟨LV.le.refl _, rfl⟩, ?_⟩
  refine ⟨_, ⟨LV.le.refl _, rfl⟩, ?_⟩
  refine ⟨_, Ct.callC (rall_ct n0 k0 h0) rfl (leL.refl _) ⟨LV.le.refl _, rfl⟩, ?_⟩
  refine ⟨_, ⟨LV.le.refl _, rfl⟩, ?_⟩
  refine ⟨_, ⟨LV.le.refl _, rfl⟩, ?_⟩
  refine ⟨_, Ct.callC (rall_ct n1 k1 h1) rfl (leL.refl _) ⟨LV.le.refl _, rfl⟩, ?_⟩
  refine ⟨_, ⟨LV.le.refl _, rfl⟩, ?_⟩
  refine ⟨_, ⟨LV.le.refl _, rfl⟩, ?_⟩
  refine ⟨_, ⟨LV.le.refl _, rfl⟩, ?_⟩
  refine ⟨_, _, ⟨LV.le.refl _, rfl⟩, ?_⟩
  refine ⟨_, ⟨LV.le.refl _, rfl⟩, ?_⟩
  refine ⟨True.intro, ?_⟩
  exact ⟨LV.le.refl _, rfl⟩
theorem rtexts_same (n : Nat) (a : TL) (hn : n ≤ 1000000000) : Ct Tryz.prog 68 [.sl 1 n (tx a), .sl 1 n (tx a)] (.v (.bool true)) := by
  refine Ct.enter Tryz.tabOk ft68 ?_
  refine ⟨fun h => absurd h (by simp), fun _ => ?_⟩
  refine ⟨Nat, fun j => ⟨[(5, .v (.int .i64 (j : Int))), (0, .sl 1 n (tx a)), (1, .sl 1 n (tx a))], [], 0, 0⟩, fun j => j ≤ n, fun j => n - j, 0, Nat.zero_le _,
    .le ⟨rfl, ⟨rfl, Nat.le_refl _⟩, ⟨LV.le.refl _, rfl, LV.le.refl _, rfl, LV.le.refl _, rfl, trivial⟩, trivial⟩, fun j hj => ⟨fun h1 => ?_, fun h1 => ?_⟩⟩
  · have h1 := dT h1
    have e11 : IntKind.i64.wrap ((j : Int) + 1) = ((j + 1 : Nat) : Int) := by rw [w64] <;> omega
    refine DrawA.run Tryz.tabOk Tryz.mixed [0, 0, 3, 7, 0, 0, 48, 112, 255] [] rfl ?_
    refine ⟨_, ⟨LV.le.refl _, rfl⟩, ?_⟩
    refine ⟨_, ⟨LV.le.refl _, rfl⟩, ?_⟩
    refine ⟨_, ⟨⟨by omega, by omega⟩, LV.le.refl _, rfl⟩, ?_⟩
    refine ⟨_, ⟨LV.le.refl _, rfl⟩, ?_⟩
    refine ⟨_, ⟨LV.le.refl _, rfl⟩, ?_⟩
    refine ⟨_, ⟨LV.le.refl _, rfl⟩, ?_⟩
    refine ⟨_, ⟨⟨by omega, by omega⟩, LV.le.refl _, rfl⟩, ?_⟩
    refine ⟨_, ⟨LV.le.refl _, rfl⟩, ?_⟩
    refine ⟨.v (.bool false), ⟨LV.le.bsV (by simp), rfl⟩, ?_⟩
    refine ⟨True.intro, ?_⟩
    exact ⟨j + 1, (by omega : j + 1 ≤ n), (by omega : n - (j + 1) < n - j), .le ⟨rfl, ⟨rfl, Nat.le_refl _⟩, ⟨LV.le.int e11, rfl, LV.le.refl _, rfl, LV.le.refl _, rfl, trivial⟩, trivial⟩⟩
  · exact ⟨LV.le.refl _, rfl⟩
theorem rSame_ct (n m : Nat) (a c : TL) (z : List UInt8) (hn : n ≤ 1000000000) (hm : m ≤ 1000000000) : Ct Tryz.prog 29 [imgV (.sl 1 n (tx a)) (.sl 1 m (tx c)) z, imgV (.sl 1 n (tx a)) (.sl 1 m (tx c)) z] (.v (.bool true)) := by
  refine Ct.enter Tryz.tabOk ft29 ?_
  refine ⟨fun _ => ?_, fun h => absurd h (by simp)⟩
  refine Ct.callC (rtexts_same n a hn) rfl (leL.refl _) ?_
  refine Ct.callC (rtexts_same m c hm) rfl (leL.refl _) ?_
  exact ⟨LV.le.refl _, rfl⟩
end Go.Proofs.Aw
