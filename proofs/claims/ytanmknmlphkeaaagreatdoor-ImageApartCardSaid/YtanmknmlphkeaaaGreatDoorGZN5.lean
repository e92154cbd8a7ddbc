/- A PART OF THE PROOF: an abstract run of the loaded code over value trees, and the functions walked by it. No condition of its own. -/
import Derived.Test.YtanmknmlphkeaaaGreatDoorGZN3
import Derived.RangeFuncNested
import Derived.RangeFuncBound
import Derived.RangeFuncCalls
import Derived.RangeFuncLeaves
import Derived.Shelf.Abstract
import Derived.Shelf.RegionOpen
import Derived.WalkKit
import Derived.OwnWalkIn
import Derived.TacticsInMore
import Derived.LoopNIn
import Derived.LoopIn
namespace Go.Proofs
open Go Go.RowKit Go.Shelf
attribute [local go_sem] Oper.semAt_some
def Bwd.upto {α : Type} (f : Nat → α) (k : Nat) : List α := (List.range k).map f
theorem Bwd.upto_succ {α : Type} (f : Nat → α) (k : Nat) : Bwd.upto f (k + 1) = Bwd.upto f k ++ [f k] := by simp [Bwd.upto, List.range_succ]
theorem Bwd.upto_length {α : Type} (f : Nat → α) (k : Nat) : (Bwd.upto f k).length = k := by simp [Bwd.upto]
abbrev Bwd.El := Int × Int × ByteArray
def Bwd.enc (x : Bwd.El) : Array Value := #[.int .i64 x.1, .agg #[.int .i64 x.2.1, .string x.2.2]]
/-- what comes at the j-th round, of n -/
def Bwd.at_ (n : Nat) (f : Nat → Int × ByteArray) (j : Nat) : Bwd.El := ((n : Int) - 1 - j, (f (n - 1 - j)).1, (f (n - 1 - j)).2)
set_option maxRecDepth 100000 in
set_option maxHeartbeats 2000000 in
theorem Bwd.iter_in (F : Fence) (n : Nat) (h7 : F.fn 203) (hro : F.round = none) (hn : 1 ≤ n) (l Bs n₀ b off len cap : Nat) (f : Nat → Int × ByteArray) (hreach : len ≤ 1000000) (hb : b < n₀) (J Jx : List Bwd.El → World → Prop)
    (hY : ∀ pre x W, J pre W → pre.length < len → YieldAt F (n - 1) Tryz.prog l (Bwd.enc x) W fun e W' =>
      (e = .returned (.bool true) ∧ J (pre ++ [x]) W' ∧ Below n₀ W W') ∨ (e = .returned (.bool false) ∧ Jx (pre ++ [x]) W'))
    (W : World) (hBl : Bs < n₀) (hBs : W.cell? ⟨Bs, 0, none⟩ = some (.slice (some ⟨b, off, none⟩) len cap)) (hc : ∀ j, j < len → W.cell? ⟨b, off + j * 2, none⟩ = some (.int .i64 (f j).1) ∧ W.cell? ⟨b, off + j * 2 + 1, none⟩ = some (.string (f j).2)) (h0 : J [] W) :
    CallsIn F n Tryz.prog 203 #[.func (.yield l) #[] #[], .pointer (some ⟨Bs, 0, none⟩)] W fun e W' => (∃ v, e = .returned v) ∧
      ((∃ ys, ys = Bwd.upto (Bwd.at_ len f) len ∧ J ys W') ∨ (∃ pre, (∃ k, k < len ∧ pre = Bwd.upto (Bwd.at_ len f) (k + 1)) ∧ Jx pre W')) := by
  refine callsIn_of_wp Tryz.func203 rfl h7 ?_ hro
  simp only [Tryz.ntmps203, List.size_toArray, List.length_cons, List.length_nil, Nat.reduceAdd, Nat.reduceSub, Array.replicate_succ, Array.replicate_zero, List.push_toArray, List.append_toArray, List.nil_append, List.cons_append]
  gi_wp2
  gi_loopw [3] (fun i wr => ∃ k : Nat, k ≤ len ∧ i = .int .i64 ((len : Int) - 1 - k) ∧ J (Bwd.upto (Bwd.at_ len f) k) wr ∧ Below n₀ W wr)
    (fun i _ => (intOf i + 1).toNat)
  case atStart => exact ⟨0, Nat.zero_le _, by congr 1; simp, h0, Below.refl _ _⟩
  case round =>
    obtain ⟨k, hk, rfl, hJs, hnx⟩ := hrel
    have hBs' := (hnx.cell (p := ⟨Bs, 0, none⟩) hBl).trans hBs
    by_cases hlt : k < len
    · obtain ⟨q, hq⟩ : ∃ q : Nat, q = len - 1 - k := ⟨_, rfl⟩
      have hqi : (len : Int) - 1 - k = (q : Int) := by omega
      obtain ⟨c1, c2⟩ := hc q (by omega)
      have c1' := (hnx.cell (p := ⟨b, off + q * 2, none⟩) hb).trans c1
      have c2' := (hnx.cell (p := ⟨b, off + q * 2 + 1, none⟩) hb).trans c2
      obtain ⟨fn, tmps, assign, body, hy, hR⟩ := hY _ (Bwd.at_ len f k) wr hJs (by rw [Bwd.upto_length]; exact hlt)
      simp only [Bwd.enc, Bwd.at_, hqi, ← hq] at hy
      rw [hqi]
      clear hq c1 c2 hc hBs
      have hql : q < len := by omega
      gi_wp2
      refine hR.mono ?_
      rintro e W3 (⟨rfl, hJ3, hk3⟩ | ⟨rfl, hJx3⟩)
      · gi_wp2
        go_roundw
        case rel => exact ⟨k + 1, by omega, by congr 1; have := Aw.w64 (z := (q : Int) - 1) (by omega) (by omega); omega, by rw [Bwd.upto_succ]; exact hJ3, hnx.trans hk3⟩
        case measure => simp [intOf]
      · gi_wp2
        refine bodyPost_ret (results_none rfl _ _ _) rfl ?_
        exact ⟨⟨_, rfl⟩, .inr ⟨_, ⟨k, hlt, (Bwd.upto_succ _ _).symm⟩, hJx3⟩⟩
    · obtain rfl : k = len := by omega
      have e : (k : Int) - 1 - k = -1 := by omega
      rw [e]
      gi_wp2
      go_end0
      exact ⟨⟨_, rfl⟩, .inl ⟨_, rfl, hJs⟩⟩
end Go.Proofs
namespace Go.Proofs
open Go Go.RowKit Go.Shelf
attribute [local go_sem] Oper.semAt_some
set_option maxRecDepth 100000
theorem Bwd.nil_in (F : Fence) (n : Nat) (h7 : F.fn 203) (hro : F.round = none) (l Bs cap : Nat) (A : Option Addr) (J : List Bwd.El → World → Prop) (W : World) (hBs : W.cell? ⟨Bs, 0, none⟩ = some (.slice A 0 cap)) (h0 : J [] W) :
    CallsIn F n Tryz.prog 203 #[.func (.yield l) #[] #[], .pointer (some ⟨Bs, 0, none⟩)] W fun e W' => (∃ v, e = .returned v) ∧ J [] W' := by
  refine callsIn_of_wp Tryz.func203 rfl h7 ?_ hro
  simp only [Tryz.ntmps203, List.size_toArray, List.length_cons, List.length_nil, Nat.reduceAdd, Nat.reduceSub, Array.replicate_succ, Array.replicate_zero, List.push_toArray, List.append_toArray, List.nil_append, List.cons_append]
  gi_wp2
  gi_loopw [3] (fun i wr => i = .int .i64 (-1) ∧ J [] wr) (fun _ _ => 0)
  case atStart => exact ⟨by simp, h0⟩
  case round =>
    obtain ⟨rfl, hJs⟩ := hrel
    gi_wp2
    go_end0
    exact ⟨⟨_, rfl⟩, hJs⟩
set_option maxHeartbeats 1000000 in
theorem Bwd.back_in (F : Fence) (n : Nat) (h5 : F.fn 191) (hro : F.round = none) (a : Option Addr) (len cap : Nat) (w : World) :
    CallsIn F n Tryz.prog 191 #[.slice a len cap] w fun e w' => e = .returned (.func (.func 203) #[] #[.pointer (some ⟨w.heap.size, 0, none⟩)]) ∧ w' = w.alloc (.cells #[.slice a len cap] 26) := by
  refine callsIn_of_wp Tryz.func191 rfl h5 ?_ hro
  simp only [Tryz.ntmps191, List.size_toArray, List.length_cons, List.length_nil, Nat.reduceAdd, Nat.reduceSub, Array.replicate_succ, Array.replicate_zero, List.push_toArray, List.append_toArray, List.nil_append, List.cons_append]
  gi_wp2
  go_ret
  exact ⟨rfl, rfl⟩
/-- the slice sv holds the writes f, in a block below n₀ -/
def Bwd.Ws (n₀ : Nat) (W : World) (sv : Value) (len : Nat) (f : Nat → Int × ByteArray) : Prop :=
  (∃ A cap, sv = .slice A 0 cap ∧ len = 0) ∨ ∃ b off cap, sv = .slice (some ⟨b, off, none⟩) len cap ∧ b < n₀ ∧ ∀ j, j < len → W.cell? ⟨b, off + j * 2, none⟩ = some (.int .i64 (f j).1) ∧ W.cell? ⟨b, off + j * 2 + 1, none⟩ = some (.string (f j).2)
theorem Bwd.stops (F : Fence) (n : Nat) (h7 : F.fn 203) (hro : F.round = none) (hn : 1 ≤ n) (Bs n₀ : Nat) (sv : Value) (len : Nat) (f : Nat → Int × ByteArray) (hreach : len ≤ 1000000) (w : World) (hBs : Bs < n₀) (hn₀ : n₀ ≤ w.heap.size)
    (hc : w.cell? ⟨Bs, 0, none⟩ = some sv) (hI : Bwd.Ws n₀ w sv len f) :
    SeqStopsK F n Tryz.prog 203 #[.pointer (some ⟨Bs, 0, none⟩)] Bwd.enc (Below n₀) (fun ys => ys = Bwd.upto (Bwd.at_ len f) len) (fun pre => ∃ k, k < len ∧ pre = Bwd.upto (Bwd.at_ len f) (k + 1)) len w := fun l J Jx W hW _ _ hY h0 => by
  have hc' := (hW.cell (p := ⟨Bs, 0, none⟩) (Nat.lt_of_lt_of_le hBs hn₀)).trans hc
  have hW' := hW.mono hn₀
  rcases hI with ⟨A, cap, rfl, rfl⟩ | ⟨b, off, cap, rfl, hb, hcs⟩
  · exact (Bwd.nil_in F n h7 hro l Bs cap A J W hc' h0).mono fun e W' ⟨he, hj⟩ => ⟨he, .inl ⟨_, rfl, hj⟩⟩
  · exact Bwd.iter_in F n h7 hro hn l Bs n₀ b off len cap f hreach hb J Jx hY W hBs hc' (fun j hj => ⟨(hW'.cell (p := ⟨b, _, none⟩) hb).trans (hcs j hj).1, (hW'.cell (p := ⟨b, _, none⟩) hb).trans (hcs j hj).2⟩) h0
/-- a block of cells -/
def Rowed (W : World) (B : Nat) (t : TypeId) (cs : Array Value) : Prop := W.heap[B]? = some (.cells cs t (0, 0))
theorem Rowed.lt {W : World} {B : Nat} {t : TypeId} {v : Array Value} (h : Rowed W B t v) : B < W.heap.size := (Array.getElem?_eq_some_iff.1 h).1
theorem Rowed.cell {W : World} {B : Nat} {t : TypeId} {v : Array Value} (h : Rowed W B t v) (i : Nat) : W.cell? ⟨B, i, none⟩ = v[i]? := by simp [World.cell?, show W.heap[B]? = _ from h]
theorem Rowed.kept {W W' : World} {row : Option Nat} {B : Nat} {t : TypeId} {v : Array Value} (h : Rowed W B t v) (hg : W.grownBy W' row) (hne : some B ≠ row) : Rowed W' B t v := (hg.block B h.lt hne).trans h
theorem Rowed.alloc {W : World} {B : Nat} {t : TypeId} {v : Array Value} (h : Rowed W B t v) (o : Obj) : Rowed (W.alloc o) B t v := h.kept (World.grownBy_alloc W o none) (by simp)
theorem rowed_own {β : Type} (B : Nat) (t : TypeId) (f : β → Array Value) : Own (fun s W => Rowed W B t (f s)) := fun s X Y row hs hg hrow =>
  hs.kept hg (fun e' => by obtain ⟨o, ho, hc⟩ := hrow B e'.symm; rw [show X.heap[B]? = _ from hs] at ho; cases ho; cases hc)
def lastS (pre : List Bwd.El) : ByteArray := match pre.getLast? with
  | some x => x.2.2
  | none => ⟨#[]⟩
theorem lastS_snoc (pre : List Bwd.El) (x : Bwd.El) : lastS (pre ++ [x]) = x.2.2 := by simp [lastS]
set_option maxHeartbeats 4000000 in
theorem Bwd.get_in (F : Fence) (n : Nat) (hF : ∀ f, F.fn f) (hro : F.round = none) (hn : 6 ≤ n) (w : World) (b1 o1 c1 nB i len cap : Nat) (A : Option Addr) (dl : Int) (f : Nat → Int × ByteArray) (s0 : ByteArray) (hi : i < nB) (_hnB : nB ≤ 1000) (hreach : len ≤ 1000)
    (hb1 : b1 < w.heap.size) (hs0 : w.cell? ⟨b1, o1 + i, none⟩ = some (.string s0)) (hI : Bwd.Ws w.heap.size w (.slice A len cap) len f) :
    CallsIn F n Tryz.prog 175 #[.agg #[.slice (some ⟨b1, o1, none⟩) nB c1, .slice A len cap, .int .i64 dl], .int .i64 i] w fun e W' =>
      (∃ s, e = .returned (.tuple #[.string s, .int .i64 0]) ∧ ((s = s0 ∧ ∀ j, j < len → (f j).1 ≠ i) ∨ ∃ j, j < len ∧ (f j).1 = i ∧ s = (f j).2 ∧ ∀ q, j < q → q < len → (f q).1 ≠ i)) ∧ Below w.heap.size w W' := by
  have h1 : 1 ≤ n := by omega
  refine callsIn_of_wp_marks Tryz.func175 rfl (hF _) ?_ hro
  simp only [Tryz.ntmps175, List.size_toArray, List.length_cons, List.length_nil, Nat.reduceAdd, Nat.reduceSub, Array.replicate_succ, Array.replicate_zero, List.push_toArray, List.append_toArray, List.nil_append, List.cons_append]
  gi_wp2_with (gi_at_call 191; refine (Bwd.back_in F (n - 1) (hF _) hro _ _ _ _).mono ?_; rintro e w' ⟨rfl, rfl⟩)
  obtain ⟨W0, hW0⟩ : ∃ W0, ((((w.alloc (.cells #[.slice (some ⟨b1, o1, none⟩) nB c1, .slice A len cap, .int .i64 dl] 28)).alloc (.cells #[.int .i64 i] 3)).alloc (.cells #[.string ⟨#[]⟩] 9)).alloc (.cells #[.int .i64 0] 32)).alloc (.cells #[.slice A len cap] 26) = W0 := ⟨_, rfl⟩
  have hsz : W0.heap.size = w.heap.size + 5 := by rw [← hW0]; simp
  have hB0 : Below w.heap.size w W0 := by
    rw [← hW0]
    exact (((((Below.refl _ w).alloc (Nat.le_refl _) _).alloc (by simp) _).alloc (by simp; omega) _).alloc (by simp; omega) _).alloc (by simp; omega) _
  have r0 : W0.heap[w.heap.size]? = some (.cells #[.slice (some ⟨b1, o1, none⟩) nB c1, .slice A len cap, .int .i64 dl] 28 (0, 0)) := by
    rw [← hW0]
    refine (Below.heap_alloc _ _ _ (by simp; omega)).trans ((Below.heap_alloc _ _ _ (by simp; omega)).trans ((Below.heap_alloc _ _ _ (by simp; omega)).trans ((Below.heap_alloc _ _ _ (by simp)).trans ?_)))
    exact World.alloc_heap_new _ _
  have r1 : Boxed W0 (w.heap.size + 1) 3 (.int .i64 i) := by
    rw [← hW0]
    have := ((Boxed.new (w.alloc (.cells #[.slice (some ⟨b1, o1, none⟩) nB c1, .slice A len cap, .int .i64 dl] 28)) 3 (.int .i64 i)).alloc (.cells #[.string ⟨#[]⟩] 9)).alloc (.cells #[.int .i64 0] 32) |>.alloc (.cells #[.slice A len cap] 26)
    simpa only [World.size_alloc] using this
  have r2 : Boxed W0 (w.heap.size + 1 + 1) 9 (.string ⟨#[]⟩) := by
    rw [← hW0]
    have := ((Boxed.new ((w.alloc (.cells #[.slice (some ⟨b1, o1, none⟩) nB c1, .slice A len cap, .int .i64 dl] 28)).alloc (.cells #[.int .i64 i] 3)) 9 (.string ⟨#[]⟩)).alloc (.cells #[.int .i64 0] 32)).alloc (.cells #[.slice A len cap] 26)
    simpa only [World.size_alloc] using this
  have r3 : Boxed W0 (w.heap.size + 1 + 1 + 1) 32 (.int .i64 0) := by
    rw [← hW0]
    have := (Boxed.new (((w.alloc (.cells #[.slice (some ⟨b1, o1, none⟩) nB c1, .slice A len cap, .int .i64 dl] 28)).alloc (.cells #[.int .i64 i] 3)).alloc (.cells #[.string ⟨#[]⟩] 9)) 32 (.int .i64 0)).alloc (.cells #[.slice A len cap] 26)
    simpa only [World.size_alloc] using this
  have r4 : Boxed W0 (w.heap.size + 1 + 1 + 1 + 1) 26 (.slice A len cap) := by
    rw [← hW0]
    have := (Boxed.new ((((w.alloc (.cells #[.slice (some ⟨b1, o1, none⟩) nB c1, .slice A len cap, .int .i64 dl] 28)).alloc (.cells #[.int .i64 i] 3)).alloc (.cells #[.string ⟨#[]⟩] 9)).alloc (.cells #[.int .i64 0] 32)) 26 (.slice A len cap))
    simpa only [World.size_alloc] using this
  rw [hW0]
  clear hW0
  have hI0 : Bwd.Ws W0.heap.size W0 (.slice A len cap) len f := by
    rcases hI with h | ⟨b, off, cap', e, hb, hc⟩
    · exact .inl h
    · exact .inr ⟨b, off, cap', e, by omega, fun j hj => ⟨(hB0.cell (p := ⟨b, _, none⟩) hb).trans (hc j hj).1, (hB0.cell (p := ⟨b, _, none⟩) hb).trans (hc j hj).2⟩⟩
  refine wpIn_rangeFunc_ownH hro h1 (gf := 203) (lb := #[.pointer (some ⟨w.heap.size + 1 + 1 + 1 + 1, 0, none⟩)]) rfl (hF _) (enters_of Tryz.func203 (by kernel_rfl) rfl)
    (Bwd.stops F (n - 1) (hF _) hro (by omega) (w.heap.size + 1 + 1 + 1 + 1) W0.heap.size _ len f (by omega) W0 (by omega) (Nat.le_refl _) r4.cell hI0) belowK_t (belowK_b (Nat.le_refl _)) (Below.refl _ _) (fun _ => rfl)
    (fun pre W => (((((∀ x ∈ pre, x.2.1 ≠ (i : Int)) ∧ Boxed W (w.heap.size + 1) 3 (.int .i64 i)) ∧ Boxed W (w.heap.size + 1 + 1) 9 (.string ⟨#[]⟩)) ∧ Boxed W (w.heap.size + 1 + 1 + 1) 32 (.int .i64 0)) ∧ Rowed W w.heap.size 28 #[.slice (some ⟨b1, o1, none⟩) nB c1, .slice A len cap, .int .i64 dl]) ∧ Below W0.heap.size W0 W)
    (fun c pre W => (((c = .ret ∧ ∃ pre' x, pre = pre' ++ [x] ∧ (∀ y ∈ pre', y.2.1 ≠ (i : Int)) ∧ x.2.1 = (i : Int)) ∧ Boxed W (w.heap.size + 1 + 1) 9 (.string (lastS pre))) ∧ Boxed W (w.heap.size + 1 + 1 + 1) 32 (.int .i64 0)) ∧ Below w.heap.size w W)
    (OwnFrom.and (OwnFrom.and (OwnFrom.and (OwnFrom.and (OwnFrom.and (ownFrom_pure _ _) (Own.from (boxed_own _ _ _) _)) (Own.from (boxed_own _ _ _) _)) (Own.from (boxed_own _ _ _) _)) (Own.from (rowed_own _ _ _) _)) (ownFrom_below (Nat.le_refl _) (Nat.le_refl _)))
    (fun c => OwnFrom.and (OwnFrom.and (OwnFrom.and (ownFrom_pure _ _) (Own.from (boxed_own _ _ (fun pre => Value.string (lastS pre))) _)) (Own.from (boxed_own _ _ _) _)) (ownFrom_below (Nat.le_refl _) (by omega)))
    ⟨⟨⟨⟨⟨by simp, r1⟩, r2⟩, r3⟩, r0⟩, Below.refl _ _⟩
    (fun x a' W => ∃ Bx, W0.heap.size ≤ Bx ∧ Rowed W Bx 87 #[.int .i64 x.2.1, .string x.2.2] ∧ a' = { tmps := #[.agg #[.slice (some ⟨b1, o1, none⟩) nB c1, .slice A len cap, .int .i64 dl], .int .i64 i, .pointer (some ⟨w.heap.size, 0, none⟩), .pointer (some ⟨w.heap.size + 1, 0, none⟩), .pointer (some ⟨w.heap.size + 1 + 1, 0, none⟩), .pointer (some ⟨w.heap.size + 1 + 1 + 1, 0, none⟩), undef, .pointer (some ⟨Bx, 0, none⟩), .int .i64 i, .bool (decide ((i : Int) < 0)), .bool (decide ((i : Int) < 0)), .int .i64 i, .pointer (some ⟨w.heap.size, 0, none⟩), .slice (some ⟨b1, o1, none⟩) nB c1, .int .i64 nB, .bool false, .bool (decide ((i : Int) < 0)), .pointer (some ⟨w.heap.size, 1, none⟩), .slice A len cap, .func (.func 203) #[] #[.pointer (some ⟨w.heap.size + 1 + 1 + 1 + 1, 0, none⟩)], .int .i64 x.1, .agg #[.int .i64 x.2.1, .string x.2.2], undef, undef, undef, undef, undef, undef, undef, undef, undef, undef, undef], defers := [] })
    (fun x a' _ X Y row hs hg hr => by obtain ⟨Bx, e1, e2, e3⟩ := hs; exact ⟨Bx, e1, rowed_own Bx 87 (fun (_ : Unit) => #[Value.int .i64 x.2.1, Value.string x.2.2]) () X Y row e2 hg (fun r e => (hr r e).2), e3⟩)
    ?assign ?body ?done ?stop
  case assign =>
    rintro l pre x W K ⟨⟨⟨⟨⟨hp, q1⟩, q2⟩, q3⟩, q0⟩, hB1⟩ hK
    simp only [Bwd.enc]
    gi_wp2
    exact hK _ _ ((KeepsOthers.alloc _ _).from _) ((Below.refl _ W).alloc hB1.size _) ⟨⟨⟨⟨⟨hp, q1.alloc _⟩, q2.alloc _⟩, q3.alloc _⟩, q0.alloc _⟩, hB1.alloc hB1.size _⟩ ⟨W.heap.size, hB1.size, World.alloc_heap_new _ _, rfl⟩
  case body =>
    rintro l pre x a' W hl ⟨r, hr⟩ ⟨⟨⟨⟨⟨hp, q1⟩, q2⟩, q3⟩, q0⟩, hB1⟩ ⟨Bx, hBx, bX, rfl⟩ hlt
    have cI := q1.cell
    have c2 := q2.cell
    have f2 := q2.frozen
    have c3 := q3.cell
    have f3 := q3.frozen
    have x0 : W.cell? ⟨Bx, 0, none⟩ = some (.int .i64 x.2.1) := bX.cell 0
    have x1 : W.cell? ⟨Bx, 1, none⟩ = some (.string x.2.2) := bX.cell 1
    by_cases hx : x.2.1 = (i : Int)
    · rw [hx] at x0
      gi_wp2
      have k2 := q2.set (.string x.2.2)
      have k3 := (q3.other (B' := w.heap.size + 1 + 1) (by omega) (.string x.2.2)).set (.int .i64 0)
      have hBW : Below w.heap.size w W := hB0.trans (hB1.mono (by omega))
      refine ⟨((KeepsOthers.setCell _ _ _).trans (KeepsOthers.setCell _ _ _)).from _, ⟨⟨⟨rfl, pre, x, rfl, hp, hx⟩, ?_⟩, k3⟩, (hBW.setCell (p := ⟨w.heap.size + 1 + 1, 0, none⟩) (by simp; omega) _).setCell (p := ⟨w.heap.size + 1 + 1 + 1, 0, none⟩) (by simp; omega) _⟩
      rw [lastS_snoc]
      exact k2.other (by omega) _
    · have hx2 : (x.2.1 == (i : Int)) = false := by simpa using hx
      gi_wp2
      exact ⟨KeepsFrom.refl _ _, Below.refl _ _, ⟨⟨⟨⟨fun y hy => (List.mem_append.1 hy).elim (hp y) (fun e => by simp at e; subst e; exact hx), q1⟩, q2⟩, q3⟩, q0⟩, hB1⟩
  case done =>
    rintro D ys W hD rfl ⟨⟨⟨⟨⟨hp, q1⟩, q2⟩, q3⟩, q0⟩, hB1⟩ hK
    have hBW : Below w.heap.size w W := hB0.trans (hB1.mono (by omega))
    have cI := q1.cell
    have c2 := q2.cell
    have f2 := q2.frozen
    have c3 := q3.cell
    have f3 := q3.frozen
    have c0 : W.cell? ⟨w.heap.size, 0, none⟩ = some (.slice (some ⟨b1, o1, none⟩) nB c1) := q0.cell 0
    have cs := (hBW.cell (p := ⟨b1, o1 + i, none⟩) hb1).trans hs0
    gi_wp2
    have hK' := ((KeepsOthers.setCell W ⟨w.heap.size + 1 + 1, 0, none⟩ (.string s0)).trans (KeepsOthers.setCell _ ⟨w.heap.size + 1 + 1 + 1, 0, none⟩ (.int .i64 0))).same D _ hK rfl
    refine ⟨by simp, .inl ⟨_, _, rfl, run_takeDeferred hK', ?_⟩⟩
    have k2 := (q2.set (.string s0)).other (B' := w.heap.size + 1 + 1 + 1) (by omega) (.int .i64 0)
    have k3 := (q3.other (B' := w.heap.size + 1 + 1) (by omega) (.string s0)).set (.int .i64 0)
    have hc4 := cell_kept k2.cell (grownBy_putObj' _ D (.deferred none)) (fun r e => by cases e; exact ⟨_, hK', rfl⟩)
    have hc5 := cell_kept k3.cell (grownBy_putObj' _ D (.deferred none)) (fun r e => by cases e; exact ⟨_, hK', rfl⟩)
    refine ⟨.tuple #[.string s0, .int .i64 0], ?_, ⟨s0, rfl, .inl ⟨rfl, fun j hj => ?_⟩⟩, ((hBW.setCell (p := ⟨w.heap.size + 1 + 1, 0, none⟩) (by simp; omega) _).setCell (p := ⟨w.heap.size + 1 + 1 + 1, 0, none⟩) (by simp; omega) _).trans (belowK_b (w := w) (Nat.le_refl _) _ D _ _ (by omega) hK' rfl rfl)⟩
    · simp [results, Tryz.f175, go_sem, hc4, hc5]
    · have hm : Bwd.at_ len f (len - 1 - j) ∈ Bwd.upto (Bwd.at_ len f) len := by
        simp only [Bwd.upto, List.mem_map, List.mem_range]
        exact ⟨len - 1 - j, by omega, rfl⟩
      have := hp _ hm
      simp only [Bwd.at_, show len - 1 - (len - 1 - j) = j by omega] at this
      exact this
  case stop =>
    rintro D c pre W hD ⟨k, hk, rfl⟩ ⟨⟨⟨⟨rfl, pre', x, e1, e2, e3⟩, q2⟩, q3⟩, hB1⟩ hK
    gi_wp2
    refine ⟨by simp, .inl ⟨_, _, rfl, run_takeDeferred hK, ?_⟩⟩
    have hc4 := cell_kept q2.cell (grownBy_putObj' _ D (.deferred none)) (fun r e => by cases e; exact ⟨_, hK, rfl⟩)
    have hc5 := cell_kept q3.cell (grownBy_putObj' _ D (.deferred none)) (fun r e => by cases e; exact ⟨_, hK, rfl⟩)
    rw [Bwd.upto_succ] at e1
    obtain ⟨rfl, rfl⟩ : Bwd.upto (Bwd.at_ len f) k = pre' ∧ Bwd.at_ len f k = x := by
      have := List.append_inj' e1 rfl
      simpa using this
    refine ⟨.tuple #[.string (f (len - 1 - k)).2, .int .i64 0], ?_, ⟨_, rfl, .inr ⟨len - 1 - k, by omega, e3, rfl, fun q h3 h4 => ?_⟩⟩, hB1.trans (belowK_b (w := w) (Nat.le_refl _) W D _ _ (by omega) hK rfl rfl)⟩
    · rw [Bwd.upto_succ, lastS_snoc] at hc4
      simp [results, Tryz.f175, go_sem, hc4, hc5, Bwd.at_]
    · have hm : Bwd.at_ len f (len - 1 - q) ∈ Bwd.upto (Bwd.at_ len f) k := by
        simp only [Bwd.upto, List.mem_map, List.mem_range]
        exact ⟨len - 1 - q, by omega, rfl⟩
      have := e2 _ hm
      simp only [Bwd.at_, show len - 1 - (len - 1 - q) = q by omega] at this
      exact this
end Go.Proofs
namespace Go.Proofs.Aw
open Go Go.Proofs Go.RowKit
set_option maxHeartbeats 8000000
set_option maxRecDepth 100000
theorem getN_none {m : MM} {i : Nat} : ∀ {k : Nat}, (∀ j, j < k → (m.pend j).1 ≠ (i : Int)) → getN m i k = m.bl i
  | 0, _ => rfl
  | k + 1, h => by
    simp only [getN]
    rw [if_neg (h k (by omega)), getN_none fun j hj => h j (by omega)]
theorem getN_hit {m : MM} {i j : Nat} (hj : (m.pend j).1 = (i : Int)) : ∀ {k : Nat}, j < k → (∀ q, j < q → q < k → (m.pend q).1 ≠ (i : Int)) → getN m i k = (m.pend j).2
  | 0, h, _ => by omega
  | k + 1, h, hq => by
    simp only [getN]
    rcases (by omega : j < k ∨ j = k) with h1 | rfl
    · rw [if_neg (hq k h1 (by omega)), getN_hit hj h1 fun q a b => hq q a (by omega)]
    · rw [if_pos hj]
theorem get_ct (m : MM) (i : Nat) (hi : i < m.nB) (hB : m.nB ≤ 1000) (hW : m.nW ≤ 1000) : Ct Tryz.prog 175 [.agg m.drive, iv (i : Int)] (.tup [.str (getN m i m.nW), iv 0]) := by
  refine ⟨ft175.ok, fun w vo lt us hu => ?_⟩
  obtain ⟨y0, r0, rfl, ⟨ys, rfl, hys, _⟩, y1, r1, rfl, e1, e2⟩ := hu
  have e1 : y1 = .int .i64 (i : Int) := e1
  have e2 : r1 = [] := e2
  subst e1; subst e2
  obtain ⟨a0, q0, rfl, ⟨A0, c0, rfl, _, _, _, k0⟩, a1, q1, rfl, ⟨A1, c1, rfl, _, _, n1, k1⟩, a2, q2, rfl, e3, e4⟩ := hys
  have e3 : a2 = .int .i64 m.dleft := e3
  have e4 : q2 = [] := e4
  subst e3; subst e4
  obtain ⟨b0, o0, rfl, _, hb0, h0⟩ := k0 (by omega)
  obtain ⟨zs, z1, _, z3⟩ := h0 i hi
  obtain ⟨z, zr, rfl, z4, z5⟩ := z1
  have z4 : z = strV (m.bl i) := z4
  subst z4
  have hs0 := (z3 0 _ rfl).1
  have hWs : Bwd.Ws w.heap.size w (.slice A1 m.nW c1) m.nW (fun j => ((m.pend j).1, ⟨(m.pend j).2.toArray⟩)) := by
    by_cases hn : m.nW = 0
    · exact .inl ⟨A1, c1, by rw [hn], hn⟩
    · obtain ⟨b1, o1, rfl, _, hb1, h1⟩ := k1 (by omega)
      refine .inr ⟨b1, o1, c1, rfl, hb1, fun j hj => ?_⟩
      obtain ⟨ws, w1, _, w3⟩ := h1 j hj
      obtain ⟨u0, p0, rfl, f0, u1, p1, rfl, f1, f2⟩ := w1
      have f0 : u0 = .int .i64 (m.pend j).1 := f0
      have f1 : u1 = strV (m.pend j).2 := f1
      subst f0; subst f1
      exact ⟨(w3 0 _ rfl).1, (w3 1 _ rfl).1⟩
  have main := callsIn_wide.1 (Bwd.get_in Fence.wide 10 (fun _ => trivial) rfl (by omega) w b0 o0 c0 m.nB i m.nW c1 A1 m.dleft _ ⟨(m.bl i).toArray⟩ hi hB hW hb0 (by have := hs0; rw [Nat.add_zero, Nat.mul_one] at this; exact this) hWs)
  refine main.mono fun e W' hm => ?_
  obtain ⟨⟨s, rfl, hs⟩, hb⟩ := hm
  refine ⟨_, fun k hk => Nat.lt_of_lt_of_le (lt k hk) hb.size, rfl, ⟨⟨hb.os, hb.tape, hb.output⟩, hb.size, fun k hk => hb.block k hk⟩, ?_⟩
  have es : .string s = strV (getN m i m.nW) := by
    rcases hs with ⟨rfl, h⟩ | ⟨j, hj, hji, rfl, h⟩
    · rw [getN_none h]; rfl
    · rw [getN_hit hji hj h]; rfl
  exact ⟨[.string s, .int .i64 0], rfl, _, _, rfl, es, _, _, rfl, rfl, rfl⟩
theorem home_ct (m : MM) (hB : m.nB ≤ 1000) (hW : m.nW ≤ 1000) : Ct Tryz.prog 143 [.agg m.drive] (.sl 1 (hN m) (tx (homeF m))) := by
  refine Ct.enter Tryz.tab2Ok ft143 ?_
  refine Ct.callC (bad_ct m hB hW) rfl (leL.refl _) ?_
  generalize hd : badErr m = d
  refine ⟨fun h => ?_, fun h => ?_⟩
  · have e : hN m = 0 := by rw [hN, hd, if_neg (bnT h)]
    rw [e]
    exact ⟨LV.le.nil, rfl⟩
  have hz := bnF h
  subst hz
  have hb := bad_big hd
  have e : hN m = m.nB - 33 := by rw [hN, hd, if_pos rfl]
  rw [e]
  generalize hL : m.nB - 33 = L
  refine ⟨Nat, fun j => ⟨[(4, iv ((33 + j : Nat) : Int)), (3, .ls 1 j), (1, .lp 0 0)], [(1, .arr 9 1 j (tx (homeF m))), (0, .box 28 m.drive)], 2, 0⟩, fun j => j ≤ L ∧ True, fun j => L - j, 0, ⟨Nat.zero_le _, True.intro⟩, .own (ty := 9) (sz := 1) ⟨rfl, rfl, ⟨.refl _, rfl, .nil, rfl, .refl _, rfl, trivial⟩, ⟨⟨_, rfl, .of (LO.le.arr rfl fun i hi => absurd hi (by omega))⟩, rfl, rfl, ⟨_, rfl, .refl _⟩, rfl, rfl, trivial⟩⟩, fun j hj => ⟨fun h => ?_, fun h => ?_⟩⟩
  · obtain ⟨hj, hp⟩ := hj
    have h := dT h
    have h : ((33 + j : Nat) : Int) < (m.nB : Int) := h
    have hj : j < L := by omega
    have ej : IntKind.i64.wrap (((33 + j : Nat) : Int) + 1) = ((33 + (j + 1) : Nat) : Int) := by rw [w64] <;> omega
    refine Ct.callC (get_ct m (33 + j) (by omega) hB hW) rfl (leL.refl _) ?_
    exact ⟨by show (j + 1) * 16 ≤ _; omega, by show j + 1 ≤ _; omega, ⟨j + 1, ⟨(by omega : j + 1 ≤ L), True.intro⟩, (by omega : L - (j + 1) < L - j), .ren (a := 1) (b := 3) ⟨rfl, ⟨rfl, rfl, rfl, Nat.le_of_ble_eq_true rfl⟩, ⟨LV.le.int ej, rfl, LV.le.refl _, rfl, LV.le.refl _, rfl, trivial⟩, ⟨⟨_, rfl, LO.le.arrL rfl fun i hi => snocL (leL.refl _) i hi⟩, rfl, rfl, ⟨_, rfl, LO.le.refl _⟩, rfl, rfl, trivial⟩⟩⟩⟩
  · obtain ⟨hj, hp⟩ := hj
    have h := dF h
    have h : ¬ ((33 + j : Nat) : Int) < (m.nB : Int) := h
    obtain rfl : j = L := by have : j ≤ L := hj; omega
    exact ⟨LV.le.refl _, rfl⟩
theorem tx_flat (w : TL) (i : Nat) : flatL (tx w i) = true := rfl
theorem cloneS_ct (n : Nat) (w : TL) (hn : n ≤ 1000) : CtN Tryz.prog 51 [.sl 1 n (tx w)] 9 1 n (tx w) := by
  refine CtN.enter Tryz.tab2Ok ft51 (fun i _ => tx_flat w i) ?_
  refine fun q hq => ⟨fun h => hq h, fun h => ⟨by show (0 + n) * 16 ≤ _; omega, by omega, ⟨rfl, rfl, ?_⟩, fun i _ => rfl⟩⟩
  exact Nat.zero_add n
theorem volume_ct (m : MM) (hB : m.nB ≤ 1000) (hW : m.nW ≤ 1000) (hD : m.nD ≤ 1000) (hok : ∀ i, i < m.nD → DirtyOk m (hN m) i) : Ct Tryz.prog 145 [.agg m.c] (.sl 1 (hN m) (tx (volN m m.nD))) := by
  have hh := hN_le m
  refine Ct.enter Tryz.tab2Ok ft145 ?_
  refine Ct.callC (home_ct m hB hW) rfl (leL.refl _) ?_
  generalize hL : hN m = L at *
  refine CtN.call (cloneS_ct L (homeF m) (by omega)) rfl ?_
  refine ⟨Nat, fun k => ⟨[(13, iv (k : Int)), (3, .ls 1 L), (11, .sl 2 m.nD (wvs m.dirty)), (12, iv (m.nD : Int))], [(1, .arr 9 1 L (tx (volN m k))), (0, .box 30 m.c)], 2, 0⟩, fun k => k ≤ m.nD ∧ True, fun k => m.nD - k, 0, ⟨Nat.zero_le _, True.intro⟩, .le ⟨rfl, ⟨rfl, Nat.le_of_ble_eq_true rfl⟩, ⟨LV.le.refl _, rfl, LV.le.refl _, rfl, LV.le.refl _, rfl, LV.le.refl _, rfl, trivial⟩, ⟨⟨_, rfl, LO.le.arrL rfl fun i hi => leL.refl _⟩, rfl, rfl, ⟨_, rfl, LO.le.refl _⟩, rfl, rfl, trivial⟩⟩, fun k hj => ⟨fun h => ?_, fun h => ?_⟩⟩
  · obtain ⟨hj, hp⟩ := hj
    have h := dT h
    have h : (k : Int) < ((m.nD : Nat) : Int) := h
    have hk : k < m.nD := by omega
    have ek := w1 hk (by omega)
    have hdk := hok k hk
    have a : (m.dirty k).1 ≥ 0 := hdk.1
    have b : (m.dirty k).1 < (L : Int) := hdk.2.1
    refine ⟨⟨by omega, by omega⟩, ⟨a, b⟩, ?_⟩
    exact ⟨k + 1, ⟨(by omega : k + 1 ≤ m.nD), True.intro⟩, (by omega : m.nD - (k + 1) < m.nD - k), .le ⟨rfl, ⟨rfl, Nat.le_of_ble_eq_true rfl⟩, ⟨LV.le.int ek, rfl, LV.le.refl _, rfl, LV.le.refl _, rfl, LV.le.refl _, rfl, trivial⟩, ⟨⟨_, rfl, LO.le.arrL rfl fun i hi => by
        by_cases e : i = (m.dirty k).1.toNat
        · have e' : Nat.beq i (m.dirty k).1.toNat = true := by rw [e]; exact beqT _
          show leL (match Nat.beq i (m.dirty k).1.toNat with | true => _ | false => _) _
          rw [e']
          refine ⟨_, _, rfl, LV.le.eq (congrArg LV.str ?_), rfl⟩
          simp only [volN]
          rw [if_pos (by omega)]
          rfl
        · have e' : Nat.beq i (m.dirty k).1.toNat = false := beqF e
          show leL (match Nat.beq i (m.dirty k).1.toNat with | true => _ | false => _) _
          rw [e']
          refine ⟨_, _, rfl, LV.le.eq (congrArg LV.str ?_), rfl⟩
          simp only [volN]
          rw [if_neg (by omega)]⟩, rfl, rfl, ⟨_, rfl, LO.le.refl _⟩, rfl, rfl, trivial⟩⟩⟩
  · obtain ⟨hj, hp⟩ := hj
    have h := dF h
    have h : ¬ (k : Int) < ((m.nD : Nat) : Int) := h
    have hn : k = m.nD := by have : k ≤ m.nD := hj; omega
    subst hn
    exact ⟨LV.le.refl _, rfl⟩
end Go.Proofs.Aw
namespace Go.Proofs.Aw
open Go Go.Proofs Go.RowKit
set_option maxHeartbeats 8000000
set_option maxRecDepth 100000
theorem plan_in {n x : Nat} (h : planE n x = 0) : 16 ≤ n ∧ n ≤ 223 ∧ 4 ≤ x ∧ x ≤ 64 ∧ 3 + (x + 1) / 2 < n := by
  have hh : ¬ (n < 16 ∨ 223 < n ∨ x < 4 ∨ 64 < x) := fun hc => by rw [planE, if_pos hc] at h; cases h
  have h10 : ¬ n ≤ 3 + (x + 1) / 2 := fun hc => by rw [planE, if_neg hh, if_pos hc] at h; cases h
  omega
def BitS (s : List UInt8) (n x i : Nat) : Prop := (i < 3 + (x + 1) / 2 → bitF s (i : Int) = true) ∧ (n ≤ i → bitF s (i : Int) = false)
def RightOk (s : List UInt8) (n x : Nat) : Prop := ∀ i, i < 1024 → BitS s n x i
open Classical in
theorem gright_ct (s : List UInt8) (n x : Nat) (hs : s.length = 128) (hp : planE n x = 0) : Ct Tryz.prog 178 [.str s, geomL n x] (.bs (decide (RightOk s n x))) := by
  obtain ⟨p1, p2, p3, p4, p5⟩ := plan_in hp
  refine Ct.enter Tryz.tab2Ok ft178 ?_
  generalize hD : 3 + (x + 1) / 2 = D
  refine ⟨Nat, fun j => ⟨[(9, iv (j : Int)), (8, iv (D : Int)), (0, .str s), (3, .lp 0 0)], [(0, .box 130 [iv (n : Int), iv (x : Int), iv 1, iv 2, iv 3, iv (D : Int)])], 1, 0⟩, fun j => j ≤ D ∧ (∀ i, i < j → bitF s (i : Int) = true), fun j => D - j, 0, ⟨Nat.zero_le _, fun i hi => absurd hi (by omega)⟩, .le ⟨rfl, ⟨rfl, Nat.le_of_ble_eq_true rfl⟩, ⟨LV.le.refl _, rfl, LV.le.int (congrArg Nat.cast hD), rfl, LV.le.refl _, rfl, LV.le.refl _, rfl, trivial⟩, ⟨⟨_, rfl, LO.le.box ⟨_, _, rfl, LV.le.refl _, _, _, rfl, LV.le.refl _, _, _, rfl, LV.le.refl _, _, _, rfl, LV.le.refl _, _, _, rfl, LV.le.refl _, _, _, rfl, LV.le.int (congrArg Nat.cast hD), rfl⟩⟩, rfl, rfl, trivial⟩⟩, fun j hj => ⟨fun h => ?_, fun h => ?_⟩⟩
  · obtain ⟨hj, hp⟩ := hj
    have h := dT h
    have h : (j : Int) < ((D : Nat) : Int) := h
    have hj : j < D := by omega
    have ej := w1 hj (by omega)
    refine Ct.callC (has_ct s j (by omega) (by omega)) rfl (leL.refl _) ?_
    refine ⟨fun h1 => ?_, fun h1 => ?_⟩
    · exact ⟨LV.le.bF fun hall => by have := (hall j (by omega)).1 (by omega); rw [nbT h1] at this; exact absurd this (by decide), rfl⟩
    · exact ⟨j + 1, ⟨(by omega : j + 1 ≤ D), upTo hp (nbF h1)⟩, (by omega : D - (j + 1) < D - j), .le ⟨rfl, ⟨rfl, Nat.le_of_ble_eq_true rfl⟩, ⟨LV.le.int ej, rfl, LV.le.refl _, rfl, LV.le.refl _, rfl, LV.le.refl _, rfl, trivial⟩, ⟨⟨_, rfl, LO.le.refl _⟩, rfl, rfl, trivial⟩⟩⟩
  · obtain ⟨hj, hp⟩ := hj
    have h := dF h
    have h : ¬ (j : Int) < ((D : Nat) : Int) := h
    have hn : j = D := by have : j ≤ D := hj; omega
    have e1024 : IntKind.i64.wrap (8 * (s.length : Int)) = 1024 := by rw [w64 (by omega) (by omega)]; omega
    have all1 : ∀ i, i < D → bitF s (i : Int) = true := fun i hi => hp i (by omega)
    clear hp hj h hn
    generalize hR : 1024 - n = R
    refine ⟨Nat, fun k => ⟨[(6, iv ((n + k : Nat) : Int)), (0, .str s)], [], 0, 0⟩, fun k => k ≤ R ∧ (∀ i, i < k → bitF s ((n + i : Nat) : Int) = false), fun k => R - k, 0, ⟨Nat.zero_le _, fun i hi => absurd hi (by omega)⟩, .le ⟨rfl, ⟨rfl, Nat.le_of_ble_eq_true rfl⟩, ⟨LV.le.refl _, rfl, LV.le.refl _, rfl, trivial⟩, trivial⟩, fun k hj => ⟨fun h => ?_, fun h => ?_⟩⟩
    · obtain ⟨hk, hp⟩ := hj
      have h := dT h
      have h : ((n + k : Nat) : Int) < IntKind.i64.wrap (8 * (s.length : Int)) := h
      rw [e1024] at h
      have hk : k < R := by omega
      have ek : IntKind.i64.wrap (((n + k : Nat) : Int) + 1) = ((n + (k + 1) : Nat) : Int) := by rw [w64] <;> omega
      refine Ct.callC (has_ct s (n + k) (by omega) (by omega)) rfl (leL.refl _) ?_
      refine ⟨fun h1 => ?_, fun h1 => ?_⟩
      · exact ⟨LV.le.bF fun hall => by have := (hall (n + k) (by omega)).2 (by omega); rw [h1] at this; exact absurd this (by decide), rfl⟩
      · exact ⟨k + 1, ⟨(by omega : k + 1 ≤ R), upTo hp h1⟩, (by omega : R - (k + 1) < R - k), .le ⟨rfl, ⟨rfl, Nat.le_of_ble_eq_true rfl⟩, ⟨LV.le.int ek, rfl, LV.le.refl _, rfl, trivial⟩, trivial⟩⟩
    · obtain ⟨hk, hp⟩ := hj
      have h := dF h
      have h : ¬ ((n + k : Nat) : Int) < IntKind.i64.wrap (8 * (s.length : Int)) := h
      rw [e1024] at h
      exact ⟨LV.le.bT fun i hi => ⟨fun hh => all1 i (by omega), fun hh => by
        have := hp (i - n) (by omega)
        rwa [show n + (i - n) = i by omega] at this⟩, rfl⟩
open Classical in
theorem of_ct (n : Nat) (v : TL) (hn : n ≤ 1000) : Ct Tryz.prog 144 [.sl 1 n (tx v)] (.tup [geomA, iv (geoE n v)]) := by
  refine Ct.enter Tryz.tab2Ok ft144 ?_
  refine ⟨Nat, fun j => ⟨[(11, iv (j : Int)), (10, iv (n : Int)), (9, .sl 1 n (tx v)), (0, .sl 1 n (tx v)), (2, .lp 0 0)], [(0, .box 130 [iv 0, iv 0, iv 0, iv 0, iv 0, iv 0])], 1, 0⟩, fun j => j ≤ n ∧ (∀ i, i < j → (v i).length = 128), fun j => n - j, 0, ⟨Nat.zero_le _, fun i hi => absurd hi (by omega)⟩, .le ⟨rfl, ⟨rfl, Nat.le_of_ble_eq_true rfl⟩, ⟨LV.le.refl _, rfl, LV.le.refl _, rfl, LV.le.refl _, rfl, LV.le.refl _, rfl, LV.le.refl _, rfl, trivial⟩, ⟨⟨_, rfl, LO.le.refl _⟩, rfl, rfl, trivial⟩⟩, fun j hj => ⟨fun h => ?_, fun h => ?_⟩⟩
  · obtain ⟨hj, hp⟩ := hj
    have h := dT h
    have h : (j : Int) < ((n : Nat) : Int) := h
    have hj : j < n := by omega
    have ej := w1 hj (by omega)
    refine ⟨⟨by omega, by omega⟩, ⟨fun h1 => ?_, fun h1 => ?_⟩⟩
    · have h1 : ((v j).length : Int) ≠ 128 := bnT h1
      exact ⟨ofNo rfl fun hg => by have := hg.2.1 j hj; omega, rfl⟩
    · have h1 : ((v j).length : Int) = 128 := bnF h1
      exact ⟨j + 1, ⟨(by omega : j + 1 ≤ n), upTo hp (by omega)⟩, (by omega : n - (j + 1) < n - j), .le ⟨rfl, ⟨rfl, Nat.le_of_ble_eq_true rfl⟩, ⟨LV.le.int ej, rfl, LV.le.refl _, rfl, LV.le.refl _, rfl, LV.le.refl _, rfl, LV.le.refl _, rfl, trivial⟩, ⟨⟨_, rfl, LO.le.refl _⟩, rfl, rfl, trivial⟩⟩⟩
  · obtain ⟨hj, hp⟩ := hj
    have h := dF h
    have h : ¬ (j : Int) < ((n : Nat) : Int) := h
    have hn : j = n := by have : j ≤ n := hj; omega
    obtain rfl : j = n := by assumption
    have hlen : ∀ i, i < j → (v i).length = 128 := fun i hi => hp i hi
    clear hp hj h hn
    refine ⟨fun h0 => ?_, fun h0 => ?_⟩
    · have h0 : (j : Int) = 0 := beT h0
      exact ⟨ofNo rfl fun hg => by have := hg.1; omega, rfl⟩
    have h0 : (j : Int) ≠ 0 := beF h0
    have l0 := hlen 0 (by omega)
    have hx := inoF_le v
    have hsl : (((v 0).take 8).drop 6).length ≤ 8 := by rw [List.length_drop, List.length_take]; omega
    refine ⟨⟨by omega, by omega⟩, ⟨by omega, by decide, by show (8 : Int) ≤ ((v 0).length : Int); omega⟩, ?_⟩
    refine Ct.callC (get64_ct (((v 0).take 8).drop 6) hsl) rfl (leL.refl _) ?_
    have hw : IntKind.i64.wrap (inoF v : Int) = (inoF v : Int) := w64 (by omega) (by omega)
    have hw2 : IntKind.i64.wrap (getF (((v 0).take 8).drop 6) : Int) = (inoF v : Int) := hw
    by_cases hpl : planE j (inoF v) = 0
    rotate_left
    · refine Ct.callC (plan_no j (inoF v) hx hpl) rfl ⟨_, _, rfl, LV.le.refl _, _, _, rfl, LV.le.int hw2, rfl⟩ ?_
      generalize hpe : planE j (inoF v) = e at *
      refine DrawA.run Tryz.tab2Ok Tryz.mixed [0, 1, 3, 7, 15, 31, 7, 71, 255, 511, 1023, 2047, 2047, 6143, 16383, 32767, 2047, 131071, 262143, 524287] [] rfl ?_
      refine ⟨_, ⟨LV.le.refl _, rfl⟩, ?_⟩
      refine ⟨.v (.bool true), ⟨LV.le.bsV (by show (e != 0) = true; simpa using hpl), rfl⟩, ?_⟩
      refine ⟨_, ⟨LV.le.refl _, rfl⟩, ?_⟩
      refine ⟨_, ⟨LV.le.refl _, rfl⟩, ?_⟩
      refine ⟨_, ⟨LV.le.refl _, rfl⟩, ?_⟩
      refine ⟨_, ⟨LV.le.refl _, rfl⟩, ?_⟩
      refine ⟨_, ⟨LV.le.refl _, rfl⟩, ?_⟩
      refine ⟨_, ⟨LV.le.refl _, rfl⟩, ?_⟩
      refine ⟨_, ⟨LV.le.refl _, rfl⟩, ?_⟩
      refine ⟨_, ⟨LV.le.refl _, rfl⟩, ?_⟩
      refine ⟨_, ⟨LV.le.refl _, rfl⟩, ?_⟩
      refine ⟨_, ⟨LV.le.refl _, rfl⟩, ?_⟩
      refine ⟨_, ⟨LV.le.refl _, rfl⟩, ?_⟩
      refine ⟨_, ⟨LV.le.refl _, rfl⟩, ?_⟩
      refine ⟨_, ⟨LV.le.refl _, rfl⟩, ?_⟩
      refine ⟨_, ⟨LV.le.refl _, rfl⟩, ?_⟩
      refine ⟨_, ⟨LV.le.refl _, rfl⟩, ?_⟩
      refine ⟨_, ⟨LV.le.refl _, rfl⟩, ?_⟩
      refine ⟨_, ⟨LV.le.refl _, rfl⟩, ?_⟩
      refine ⟨_, ⟨LV.le.refl _, rfl⟩, ?_⟩
      refine ⟨True.intro, ?_⟩
      exact ⟨ofNo rfl fun hg => hpl (hpe ▸ hg.2.2.1), rfl⟩
    obtain ⟨p1, p2, p3, p4, p5⟩ := plan_in hpl
    have l2 := hlen 2 (by omega)
    refine Ct.callC (plan_ok j (inoF v) hx hpl) rfl ⟨_, _, rfl, LV.le.refl _, _, _, rfl, LV.le.int hw2, rfl⟩ ?_
    by_cases hH : v 0 = headF j (inoF v)
    rotate_left
    · refine DrawA.run Tryz.tab2Ok Tryz.mixed [0, 1, 3, 7, 15, 31, 7, 71, 255, 511, 1023, 2047, 2047, 6143, 16383, 32767, 2047, 131071, 262143, 524287] [] rfl ?_
      refine ⟨_, ⟨LV.le.refl _, rfl⟩, ?_⟩
      refine ⟨.v (.bool false), ⟨LV.le.bsV (rfl), rfl⟩, ?_⟩
      refine ⟨_, ⟨LV.le.refl _, rfl⟩, ?_⟩
      refine ⟨_, ⟨LV.le.refl _, rfl⟩, ?_⟩
      refine ⟨_, ⟨⟨by omega, by omega⟩, LV.le.refl _, rfl⟩, ?_⟩
      refine ⟨_, ⟨LV.le.refl _, rfl⟩, ?_⟩
      refine ⟨_, ⟨LV.le.refl _, rfl⟩, ?_⟩
      refine ⟨_, Ct.callC (head_ct j (inoF v) (by omega) hx) rfl (leL.refl _) ⟨LV.le.refl _, rfl⟩, ?_⟩
      refine ⟨.v (.bool true), ⟨LV.le.bsV (by show (v 0 != headF j (inoF v)) = true; simpa using hH), rfl⟩, ?_⟩
      refine ⟨_, ⟨LV.le.refl _, rfl⟩, ?_⟩
      refine ⟨_, ⟨LV.le.refl _, rfl⟩, ?_⟩
      refine ⟨_, ⟨LV.le.refl _, rfl⟩, ?_⟩
      refine ⟨_, ⟨LV.le.refl _, rfl⟩, ?_⟩
      refine ⟨_, ⟨LV.le.refl _, rfl⟩, ?_⟩
      refine ⟨_, ⟨LV.le.refl _, rfl⟩, ?_⟩
      refine ⟨_, ⟨LV.le.refl _, rfl⟩, ?_⟩
      refine ⟨_, ⟨LV.le.refl _, rfl⟩, ?_⟩
      refine ⟨_, ⟨LV.le.refl _, rfl⟩, ?_⟩
      refine ⟨_, ⟨LV.le.refl _, rfl⟩, ?_⟩
      refine ⟨_, ⟨LV.le.refl _, rfl⟩, ?_⟩
      refine ⟨True.intro, ?_⟩
      exact ⟨ofNo rfl fun hg => hH hg.2.2.2.1, rfl⟩
    refine DrawA.run Tryz.tab2Ok Tryz.mixed [0, 1, 3, 7, 15, 31, 7, 71, 255, 511, 1023, 2047, 2047, 6143, 16383, 32767, 2047, 131071, 262143, 524287] [] rfl ?_
    refine ⟨_, ⟨LV.le.refl _, rfl⟩, ?_⟩
    refine ⟨.v (.bool false), ⟨LV.le.bsV (rfl), rfl⟩, ?_⟩
    refine ⟨_, ⟨LV.le.refl _, rfl⟩, ?_⟩
    refine ⟨_, ⟨LV.le.refl _, rfl⟩, ?_⟩
    refine ⟨_, ⟨⟨by omega, by omega⟩, LV.le.refl _, rfl⟩, ?_⟩
    refine ⟨_, ⟨LV.le.refl _, rfl⟩, ?_⟩
    refine ⟨_, ⟨LV.le.refl _, rfl⟩, ?_⟩
    refine ⟨_, Ct.callC (head_ct j (inoF v) (by omega) hx) rfl (leL.refl _) ⟨LV.le.refl _, rfl⟩, ?_⟩
    refine ⟨.v (.bool false), ⟨LV.le.bsV (by show (v 0 != headF j (inoF v)) = false; simpa using hH), rfl⟩, ?_⟩
    refine ⟨_, ⟨LV.le.refl _, rfl⟩, ?_⟩
    refine ⟨_, ⟨LV.le.refl _, rfl⟩, ?_⟩
    refine ⟨_, ⟨LV.le.refl _, rfl⟩, ?_⟩
    refine ⟨_, ⟨LV.le.refl _, rfl⟩, ?_⟩
    refine ⟨_, ⟨LV.le.refl _, rfl⟩, ?_⟩
    refine ⟨_, ⟨⟨by omega, by omega⟩, LV.le.refl _, rfl⟩, ?_⟩
    refine ⟨_, ⟨LV.le.refl _, rfl⟩, ?_⟩
    refine ⟨_, ⟨LV.le.refl _, rfl⟩, ?_⟩
    refine ⟨_, Ct.callC (gright_ct (v 2) j (inoF v) l2 hpl) rfl (leL.refl _) ⟨LV.le.refl _, rfl⟩, ?_⟩
    refine ⟨_, ⟨LV.le.refl _, rfl⟩, ?_⟩
    refine ⟨_, ⟨LV.le.refl _, rfl⟩, ?_⟩
    refine ⟨True.intro, ?_⟩
    refine ⟨fun g => ?_, fun g => ?_⟩
    · exact ⟨ofNo rfl fun hg => (dF (nbT g) : ¬ RightOk (v 2) j (inoF v)) hg.2.2.2.2, rfl⟩
    · have gr : RightOk (v 2) j (inoF v) := dT (nbF g)
      exact ⟨ofYes rfl ⟨by omega, hlen, hpl, hH, gr⟩, rfl⟩
open Classical in
theorem disk_ct (m : MM) (hB : m.nB ≤ 1000) (hW : m.nW ≤ 1000) (hD : m.nD ≤ 1000) : Ct Tryz.prog 94 [.agg m.c] (iv (diskE m)) := by
  have hh := hN_le m
  refine Ct.enter Tryz.tab2Ok ft94 ?_
  refine Ct.callC (dcheck_ct m hB hW) rfl (leL.refl _) ?_
  generalize hd : drvErr m = d
  refine ⟨fun h => ?_, fun h => ?_⟩
  · exact ⟨LV.le.int (by rw [diskE, hd, if_pos (bnT h)]), rfl⟩
  have hz := bnF h
  subst hz
  refine Ct.callC (home_ct m hB hW) rfl (leL.refl _) ?_
  have e0 : diskE m = if hN m = 0 then 3 else if 32 < m.nD then 6 else if ¬ ∀ i, i < m.nD → DirtyOk m (hN m) i then 3 else geoE (hN m) (volN m m.nD) := by rw [diskE, hd, if_neg (by simp)]
  have hvol := volume_ct m hB hW hD
  generalize hH : hN m = H at *
  refine ⟨fun g => ?_, fun g => ⟨fun f => ?_, fun f => ?_⟩⟩
  · have g : (H : Int) = 0 := beT g
    exact ⟨LV.le.int (by rw [e0, if_pos (by omega)]), rfl⟩
  · have g : (H : Int) ≠ 0 := beF g
    have f : (m.nD : Int) > 32 := dT f
    exact ⟨LV.le.int (by rw [e0, if_neg (by omega), if_pos (by omega)]), rfl⟩
  have g : (H : Int) ≠ 0 := beF g
  have f : ¬ (m.nD : Int) > 32 := dF f
  rw [if_neg (by omega), if_neg (by omega)] at e0
  refine ⟨Nat, fun k => ⟨[(30, iv (k : Int)), (29, iv (m.nD : Int)), (28, .sl 2 m.nD (wvs m.dirty)), (1, .lp 0 0), (4, iv (H : Int))], [(0, .box 30 m.c)], 1, 0⟩, fun k => k ≤ m.nD ∧ (∀ i, i < k → DirtyOk m H i), fun k => m.nD - k, 0, ⟨Nat.zero_le _, fun i hi => absurd hi (by omega)⟩, .le ⟨rfl, ⟨rfl, Nat.le_of_ble_eq_true rfl⟩, ⟨LV.le.refl _, rfl, LV.le.refl _, rfl, LV.le.refl _, rfl, LV.le.refl _, rfl, LV.le.refl _, rfl, trivial⟩, ⟨⟨_, rfl, LO.le.refl _⟩, rfl, rfl, trivial⟩⟩, fun k hj => ⟨fun h => ?_, fun h => ?_⟩⟩
  · obtain ⟨hj, hp⟩ := hj
    have h := dT h
    have h : (k : Int) < ((m.nD : Nat) : Int) := h
    have hk : k < m.nD := by omega
    have ek := w1 hk (by omega)
    refine ⟨⟨by omega, by omega⟩, ?_⟩
    by_cases z : k = 0
    · by_cases w : 0 ≤ (m.dirty k).1 ∧ (m.dirty k).1 ≤ (H : Int) - 1
      rotate_left
      · refine DrawA.run Tryz.tab2Ok Tryz.mixed [0, 1, 3, 7, 15, 7, 39, 127, 255, 511, 7, 1031, 4095, 8191, 16383, 32767, 65535, 32767, 163839, 524287, 1048575, 2097151, 4194303, 8388607, 16777215, 33554431, 67108863, 134217727] [] rfl ?_
        refine ⟨_, ⟨LV.le.refl _, rfl⟩, ?_⟩
        refine ⟨.v (.bool false), ⟨LV.le.bsV (decide_eq_false (by omega)), rfl⟩, ?_⟩
        refine ⟨_, ⟨LV.le.refl _, rfl⟩, ?_⟩
        refine ⟨_, ⟨LV.le.refl _, rfl⟩, ?_⟩
        refine ⟨_, ⟨LV.le.refl _, rfl⟩, ?_⟩
        refine ⟨_, ⟨LV.le.refl _, rfl⟩, ?_⟩
        refine ⟨_, ⟨LV.le.refl _, rfl⟩, ?_⟩
        refine ⟨_, ⟨LV.le.refl _, rfl⟩, ?_⟩
        refine ⟨_, ⟨LV.le.refl _, rfl⟩, ?_⟩
        refine ⟨_, ⟨LV.le.refl _, rfl⟩, ?_⟩
        refine ⟨_, ⟨LV.le.refl _, rfl⟩, ?_⟩
        refine ⟨_, ⟨LV.le.refl _, rfl⟩, ?_⟩
        refine ⟨_, ⟨LV.le.refl _, rfl⟩, ?_⟩
        refine ⟨_, ⟨LV.le.refl _, rfl⟩, ?_⟩
        refine ⟨_, ⟨LV.le.refl _, rfl⟩, ?_⟩
        refine ⟨_, ⟨LV.le.refl _, rfl⟩, ?_⟩
        refine ⟨_, ⟨LV.le.refl _, rfl⟩, ?_⟩
        refine ⟨_, ⟨LV.le.refl _, rfl⟩, ?_⟩
        refine ⟨iv ((H : Int) - 1), ⟨LV.le.int (w64 (by omega) (by omega)), rfl⟩, ?_⟩
        refine ⟨.v (.bool false), Ct.callC (within_ct (m.dirty k).1 0 ((H : Int) - 1)) rfl (leL.refl _) ⟨LV.le.bsV (decide_eq_false w), rfl⟩, ?_⟩
        refine ⟨_, ⟨LV.le.refl _, rfl⟩, ?_⟩
        refine ⟨_, ⟨LV.le.refl _, rfl⟩, ?_⟩
        refine ⟨_, ⟨LV.le.refl _, rfl⟩, ?_⟩
        refine ⟨_, ⟨LV.le.refl _, rfl⟩, ?_⟩
        refine ⟨_, ⟨LV.le.refl _, rfl⟩, ?_⟩
        refine ⟨_, ⟨LV.le.refl _, rfl⟩, ?_⟩
        refine ⟨_, ⟨LV.le.refl _, rfl⟩, ?_⟩
        refine ⟨_, ⟨LV.le.refl _, rfl⟩, ?_⟩
        refine ⟨True.intro, ?_⟩
        exact ⟨LV.le.int (by rw [e0, if_pos fun hall => absurd (hall k hk) (by unfold DirtyOk; omega)]), rfl⟩
      refine DrawA.run Tryz.tab2Ok Tryz.mixed [0, 1, 3, 7, 15, 7, 39, 127, 255, 511, 7, 1031, 4095, 8191, 16383, 32767, 65535, 32767, 163839, 524287, 1048575, 2097151, 4194303, 8388607, 16777215, 33554431, 67108863, 134217727] [] rfl ?_
      refine ⟨_, ⟨LV.le.refl _, rfl⟩, ?_⟩
      refine ⟨.v (.bool false), ⟨LV.le.bsV (decide_eq_false (by omega)), rfl⟩, ?_⟩
      refine ⟨_, ⟨LV.le.refl _, rfl⟩, ?_⟩
      refine ⟨_, ⟨LV.le.refl _, rfl⟩, ?_⟩
      refine ⟨_, ⟨LV.le.refl _, rfl⟩, ?_⟩
      refine ⟨_, ⟨LV.le.refl _, rfl⟩, ?_⟩
      refine ⟨_, ⟨LV.le.refl _, rfl⟩, ?_⟩
      refine ⟨_, ⟨LV.le.refl _, rfl⟩, ?_⟩
      refine ⟨_, ⟨LV.le.refl _, rfl⟩, ?_⟩
      refine ⟨_, ⟨LV.le.refl _, rfl⟩, ?_⟩
      refine ⟨_, ⟨LV.le.refl _, rfl⟩, ?_⟩
      refine ⟨_, ⟨LV.le.refl _, rfl⟩, ?_⟩
      refine ⟨_, ⟨LV.le.refl _, rfl⟩, ?_⟩
      refine ⟨_, ⟨LV.le.refl _, rfl⟩, ?_⟩
      refine ⟨_, ⟨LV.le.refl _, rfl⟩, ?_⟩
      refine ⟨_, ⟨LV.le.refl _, rfl⟩, ?_⟩
      refine ⟨_, ⟨LV.le.refl _, rfl⟩, ?_⟩
      refine ⟨_, ⟨LV.le.refl _, rfl⟩, ?_⟩
      refine ⟨iv ((H : Int) - 1), ⟨LV.le.int (w64 (by omega) (by omega)), rfl⟩, ?_⟩
      refine ⟨.v (.bool true), Ct.callC (within_ct (m.dirty k).1 0 ((H : Int) - 1)) rfl (leL.refl _) ⟨LV.le.bsV (decide_eq_true w), rfl⟩, ?_⟩
      refine ⟨_, ⟨LV.le.refl _, rfl⟩, ?_⟩
      refine ⟨_, ⟨LV.le.refl _, rfl⟩, ?_⟩
      refine ⟨_, ⟨LV.le.refl _, rfl⟩, ?_⟩
      refine ⟨_, ⟨LV.le.refl _, rfl⟩, ?_⟩
      refine ⟨_, ⟨LV.le.refl _, rfl⟩, ?_⟩
      refine ⟨_, ⟨LV.le.refl _, rfl⟩, ?_⟩
      refine ⟨_, ⟨LV.le.refl _, rfl⟩, ?_⟩
      refine ⟨_, ⟨LV.le.refl _, rfl⟩, ?_⟩
      refine ⟨True.intro, ?_⟩
      refine ⟨fun s => ?_, fun s => ?_⟩
      · have s : ((m.dirty k).2.length : Int) ≠ 128 := bnT s
        exact ⟨LV.le.int (by rw [e0, if_pos fun hall => absurd (hall k hk) (by unfold DirtyOk; omega)]), rfl⟩
      · have s : ((m.dirty k).2.length : Int) = 128 := bnF s
        exact ⟨k + 1, ⟨(by omega : k + 1 ≤ m.nD), upTo hp ⟨by omega, by omega, by omega, fun hc => absurd hc (by omega)⟩⟩, (by omega : m.nD - (k + 1) < m.nD - k), .le ⟨rfl, ⟨rfl, Nat.le_of_ble_eq_true rfl⟩, ⟨LV.le.int ek, rfl, LV.le.refl _, rfl, LV.le.refl _, rfl, LV.le.refl _, rfl, LV.le.refl _, rfl, trivial⟩, ⟨⟨_, rfl, LO.le.refl _⟩, rfl, rfl, trivial⟩⟩⟩
    by_cases y : (m.dirty (k - 1)).1 ≥ (m.dirty k).1
    · refine DrawA.run Tryz.tab2Ok Tryz.mixed [0, 1, 3, 7, 15, 7, 39, 127, 255, 511, 7, 1031, 4095, 8191, 16383, 32767, 65535, 32767, 163839, 524287, 1048575, 2097151, 4194303, 8388607, 16777215, 33554431, 67108863, 134217727] [] rfl ?_
      refine ⟨_, ⟨LV.le.refl _, rfl⟩, ?_⟩
      refine ⟨.v (.bool true), ⟨LV.le.bsV (decide_eq_true (by omega)), rfl⟩, ?_⟩
      refine ⟨_, ⟨LV.le.refl _, rfl⟩, ?_⟩
      refine ⟨_, ⟨LV.le.refl _, rfl⟩, ?_⟩
      refine ⟨_, ⟨LV.le.refl _, rfl⟩, ?_⟩
      refine ⟨_, ⟨LV.le.refl _, rfl⟩, ?_⟩
      refine ⟨iv ((k - 1 : Nat) : Int), ⟨LV.le.int (by rw [w64] <;> omega), rfl⟩, ?_⟩
      refine ⟨_, ⟨⟨by omega, by omega⟩, LV.le.refl _, rfl⟩, ?_⟩
      refine ⟨_, ⟨LV.le.refl _, rfl⟩, ?_⟩
      refine ⟨_, ⟨LV.le.refl _, rfl⟩, ?_⟩
      refine ⟨_, ⟨LV.le.refl _, rfl⟩, ?_⟩
      refine ⟨_, ⟨LV.le.refl _, rfl⟩, ?_⟩
      refine ⟨.v (.bool true), ⟨LV.le.bsV (decide_eq_true y), rfl⟩, ?_⟩
      refine ⟨_, ⟨LV.le.refl _, rfl⟩, ?_⟩
      refine ⟨_, ⟨LV.le.refl _, rfl⟩, ?_⟩
      refine ⟨_, ⟨LV.le.refl _, rfl⟩, ?_⟩
      refine ⟨_, ⟨LV.le.refl _, rfl⟩, ?_⟩
      refine ⟨_, ⟨LV.le.refl _, rfl⟩, ?_⟩
      refine ⟨_, ⟨LV.le.refl _, rfl⟩, ?_⟩
      refine ⟨_, ⟨LV.le.refl _, rfl⟩, ?_⟩
      refine ⟨_, ⟨LV.le.refl _, rfl⟩, ?_⟩
      refine ⟨_, ⟨LV.le.refl _, rfl⟩, ?_⟩
      refine ⟨_, ⟨LV.le.refl _, rfl⟩, ?_⟩
      refine ⟨_, ⟨LV.le.refl _, rfl⟩, ?_⟩
      refine ⟨_, ⟨LV.le.refl _, rfl⟩, ?_⟩
      refine ⟨_, ⟨LV.le.refl _, rfl⟩, ?_⟩
      refine ⟨_, ⟨LV.le.refl _, rfl⟩, ?_⟩
      refine ⟨_, ⟨LV.le.refl _, rfl⟩, ?_⟩
      refine ⟨True.intro, ?_⟩
      exact ⟨LV.le.int (by rw [e0, if_pos fun hall => absurd (hall k hk) (by unfold DirtyOk; omega)]), rfl⟩
    by_cases w : 0 ≤ (m.dirty k).1 ∧ (m.dirty k).1 ≤ (H : Int) - 1
    rotate_left
    · refine DrawA.run Tryz.tab2Ok Tryz.mixed [0, 1, 3, 7, 15, 7, 39, 127, 255, 511, 7, 1031, 4095, 8191, 16383, 32767, 65535, 32767, 163839, 524287, 1048575, 2097151, 4194303, 8388607, 16777215, 33554431, 67108863, 134217727] [] rfl ?_
      refine ⟨_, ⟨LV.le.refl _, rfl⟩, ?_⟩
      refine ⟨.v (.bool true), ⟨LV.le.bsV (decide_eq_true (by omega)), rfl⟩, ?_⟩
      refine ⟨_, ⟨LV.le.refl _, rfl⟩, ?_⟩
      refine ⟨_, ⟨LV.le.refl _, rfl⟩, ?_⟩
      refine ⟨_, ⟨LV.le.refl _, rfl⟩, ?_⟩
      refine ⟨_, ⟨LV.le.refl _, rfl⟩, ?_⟩
      refine ⟨iv ((k - 1 : Nat) : Int), ⟨LV.le.int (by rw [w64] <;> omega), rfl⟩, ?_⟩
      refine ⟨_, ⟨⟨by omega, by omega⟩, LV.le.refl _, rfl⟩, ?_⟩
      refine ⟨_, ⟨LV.le.refl _, rfl⟩, ?_⟩
      refine ⟨_, ⟨LV.le.refl _, rfl⟩, ?_⟩
      refine ⟨_, ⟨LV.le.refl _, rfl⟩, ?_⟩
      refine ⟨_, ⟨LV.le.refl _, rfl⟩, ?_⟩
      refine ⟨.v (.bool false), ⟨LV.le.bsV (decide_eq_false y), rfl⟩, ?_⟩
      refine ⟨_, ⟨LV.le.refl _, rfl⟩, ?_⟩
      refine ⟨_, ⟨LV.le.refl _, rfl⟩, ?_⟩
      refine ⟨_, ⟨LV.le.refl _, rfl⟩, ?_⟩
      refine ⟨_, ⟨LV.le.refl _, rfl⟩, ?_⟩
      refine ⟨_, ⟨LV.le.refl _, rfl⟩, ?_⟩
      refine ⟨iv ((H : Int) - 1), ⟨LV.le.int (w64 (by omega) (by omega)), rfl⟩, ?_⟩
      refine ⟨.v (.bool false), Ct.callC (within_ct (m.dirty k).1 0 ((H : Int) - 1)) rfl (leL.refl _) ⟨LV.le.bsV (decide_eq_false w), rfl⟩, ?_⟩
      refine ⟨_, ⟨LV.le.refl _, rfl⟩, ?_⟩
      refine ⟨_, ⟨LV.le.refl _, rfl⟩, ?_⟩
      refine ⟨_, ⟨LV.le.refl _, rfl⟩, ?_⟩
      refine ⟨_, ⟨LV.le.refl _, rfl⟩, ?_⟩
      refine ⟨_, ⟨LV.le.refl _, rfl⟩, ?_⟩
      refine ⟨_, ⟨LV.le.refl _, rfl⟩, ?_⟩
      refine ⟨_, ⟨LV.le.refl _, rfl⟩, ?_⟩
      refine ⟨_, ⟨LV.le.refl _, rfl⟩, ?_⟩
      refine ⟨True.intro, ?_⟩
      exact ⟨LV.le.int (by rw [e0, if_pos fun hall => absurd (hall k hk) (by unfold DirtyOk; omega)]), rfl⟩
    refine DrawA.run Tryz.tab2Ok Tryz.mixed [0, 1, 3, 7, 15, 7, 39, 127, 255, 511, 7, 1031, 4095, 8191, 16383, 32767, 65535, 32767, 163839, 524287, 1048575, 2097151, 4194303, 8388607, 16777215, 33554431, 67108863, 134217727] [] rfl ?_
    refine ⟨_, ⟨LV.le.refl _, rfl⟩, ?_⟩
    refine ⟨.v (.bool true), ⟨LV.le.bsV (decide_eq_true (by omega)), rfl⟩, ?_⟩
    refine ⟨_, ⟨LV.le.refl _, rfl⟩, ?_⟩
    refine ⟨_, ⟨LV.le.refl _, rfl⟩, ?_⟩
    refine ⟨_, ⟨LV.le.refl _, rfl⟩, ?_⟩
    refine ⟨_, ⟨LV.le.refl _, rfl⟩, ?_⟩
    refine ⟨iv ((k - 1 : Nat) : Int), ⟨LV.le.int (by rw [w64] <;> omega), rfl⟩, ?_⟩
    refine ⟨_, ⟨⟨by omega, by omega⟩, LV.le.refl _, rfl⟩, ?_⟩
    refine ⟨_, ⟨LV.le.refl _, rfl⟩, ?_⟩
    refine ⟨_, ⟨LV.le.refl _, rfl⟩, ?_⟩
    refine ⟨_, ⟨LV.le.refl _, rfl⟩, ?_⟩
    refine ⟨_, ⟨LV.le.refl _, rfl⟩, ?_⟩
    refine ⟨.v (.bool false), ⟨LV.le.bsV (decide_eq_false y), rfl⟩, ?_⟩
    refine ⟨_, ⟨LV.le.refl _, rfl⟩, ?_⟩
    refine ⟨_, ⟨LV.le.refl _, rfl⟩, ?_⟩
    refine ⟨_, ⟨LV.le.refl _, rfl⟩, ?_⟩
    refine ⟨_, ⟨LV.le.refl _, rfl⟩, ?_⟩
    refine ⟨_, ⟨LV.le.refl _, rfl⟩, ?_⟩
    refine ⟨iv ((H : Int) - 1), ⟨LV.le.int (w64 (by omega) (by omega)), rfl⟩, ?_⟩
    refine ⟨.v (.bool true), Ct.callC (within_ct (m.dirty k).1 0 ((H : Int) - 1)) rfl (leL.refl _) ⟨LV.le.bsV (decide_eq_true w), rfl⟩, ?_⟩
    refine ⟨_, ⟨LV.le.refl _, rfl⟩, ?_⟩
    refine ⟨_, ⟨LV.le.refl _, rfl⟩, ?_⟩
    refine ⟨_, ⟨LV.le.refl _, rfl⟩, ?_⟩
    refine ⟨_, ⟨LV.le.refl _, rfl⟩, ?_⟩
    refine ⟨_, ⟨LV.le.refl _, rfl⟩, ?_⟩
    refine ⟨_, ⟨LV.le.refl _, rfl⟩, ?_⟩
    refine ⟨_, ⟨LV.le.refl _, rfl⟩, ?_⟩
    refine ⟨_, ⟨LV.le.refl _, rfl⟩, ?_⟩
    refine ⟨True.intro, ?_⟩
    refine ⟨fun s => ?_, fun s => ?_⟩
    · have s : ((m.dirty k).2.length : Int) ≠ 128 := bnT s
      exact ⟨LV.le.int (by rw [e0, if_pos fun hall => absurd (hall k hk) (by unfold DirtyOk; omega)]), rfl⟩
    · have s : ((m.dirty k).2.length : Int) = 128 := bnF s
      exact ⟨k + 1, ⟨(by omega : k + 1 ≤ m.nD), upTo hp ⟨by omega, by omega, by omega, fun _ => by omega⟩⟩, (by omega : m.nD - (k + 1) < m.nD - k), .le ⟨rfl, ⟨rfl, Nat.le_of_ble_eq_true rfl⟩, ⟨LV.le.int ek, rfl, LV.le.refl _, rfl, LV.le.refl _, rfl, LV.le.refl _, rfl, LV.le.refl _, rfl, trivial⟩, ⟨⟨_, rfl, LO.le.refl _⟩, rfl, rfl, trivial⟩⟩⟩
  · obtain ⟨hj, hp⟩ := hj
    have h := dF h
    have h : ¬ (k : Int) < ((m.nD : Nat) : Int) := h
    have hn : k = m.nD := by have : k ≤ m.nD := hj; omega
    have hall : ∀ i, i < m.nD → DirtyOk m H i := fun i hi => hp i (by omega)
    rw [if_neg (fun hc => hc hall)] at e0
    refine Ct.callC (hvol hall) rfl (leL.refl _) ?_
    refine Ct.callC (of_ct H (volN m m.nD) (by omega)) rfl (leL.refl _) ?_
    exact ⟨LV.le.int e0.symm, rfl⟩
end Go.Proofs.Aw
