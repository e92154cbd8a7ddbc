/- A PART OF THE PROOF: an abstract run of the loaded code over value trees, and the functions walked by it. No condition of its own. -/
import Derived.Test.YtanmknmlphkeaaaDoorA22
namespace Go.Proofs.Aw
open Go Go.RowKit

/-! ### functions that hand out a new slice -/
/-- called with these, function f hands out a new slice of n elements, and leaves all memory as it was -/
def CtN (P : Program) (f : FuncId) (args : List LV) (ty sz n : Nat) (g : Nat → List LV) : Prop :=
  FnOk P f ∧ (∀ i, i < n → flatL (g i) = true) ∧ ∀ w vo lt vs, RepL (Me.base w vo lt) 0 args vs → Calls P f vs.toArray w fun e w' => ∃ y xs, e = .returned y ∧ Kept w w' ∧ w'.ownsRow w.heap.size ty sz y n xs ∧ (∀ u ∈ xs, u.oneCell' = true) ∧ ∀ i, i < n → ∃ ys, RepL (Me.base w' (fun _ => False) (fun _ h => h.elim)) 0 (g i) ys ∧ ys.length = sz ∧ (xs.drop (i * sz)).take sz = ys

/-- what comes back is a new slice, so told -/
def isNew (ty sz n : Nat) (g : Nat → List LV) (x : LV) (st : St) : Prop := match x with
  | .ls o n' => match lookO o st.objs with
    | some (.arr ty' sz' n0 g') => (ty' = ty ∧ sz' = sz ∧ n' = n) ∧ ∀ i, i < n → g' i = g i
    | _ => False
  | .v (.slice none 0 0) => n = 0
  | _ => False

theorem CtN.ofCall {P : Program} {f : FuncId} {args : List LV} {ty sz n : Nat} {g : Nat → List LV} (hg : ∀ i, i < n → flatL (g i) = true) (h : CallA P f args (isNew ty sz n g) (fun _ _ => False) St.nil) : CtN P f args ty sz n g := by
  refine ⟨h.1, hg, fun w vo lt vs hargs => ?_⟩
  refine (h.2 (Me.base w vo lt) (Me.base w vo lt) #[] vs (Ok.base w vo lt) hargs).mono ?_
  rintro e w' ⟨st', m', rfl, h1, h2⟩
  rcases h2 with ⟨y, x, rfl, h3, h4⟩ | ⟨x, _, h3⟩
  · have hk := Kept.of h1.fr
    unfold isNew at h4
    split at h4
    · rename_i o n'
      split at h4
      rotate_left
      · exact h4.elim
      rename_i ty' sz' n0 g' ho
      obtain ⟨⟨rfl, rfl, rfl⟩, h5⟩ := h4
      obtain ⟨q1, rfl, A, c, q2, q3⟩ := h3
      obtain ⟨_, ⟨xs, h6, h7, h8⟩, h9⟩ := h1.sim.obj o _ ho
      have hnn : n0 = n' := by
        rw [q2] at h6
        rcases h6.2 with ⟨e1, e2⟩ | ⟨gg, cap, cur, e1, _⟩
        · injection e1 with _ e3 _; omega
        · injection e1 with _ e3 _; exact e3.symm
      subst hnn
      refine ⟨_, xs, rfl, hk, ⟨h6.1, ?_⟩, h7, fun i hi => ?_⟩
      · rcases h6.2 with e1 | ⟨gg, cap, cur, e1, _, e3⟩
        · exact .inl e1
        · refine .inr ⟨gg, cap, cur, e1, ?_, e3⟩
          have := (h9 gg (by rw [e1]; rfl)).1
          rcases h1.fr.wr gg this with h | h
          · exact h.elim
          · exact h
      · obtain ⟨ys, e1, e2, e3⟩ := h8 i hi
        rw [h5 i hi] at e1
        exact ⟨ys, RepL.flat _ _ (hg i hi) e1, e2, e3⟩
    · subst h4
      have : y = .slice none 0 0 := h3
      subst this
      exact ⟨_, [], rfl, hk, ⟨by simp, .inl ⟨rfl, rfl⟩⟩, by simp, fun i hi => absurd hi (by omega)⟩
    · exact h4.elim
  · exact h3.elim

theorem CtN.enter {P : Program} {T : Tab} (hT : T.Ok P) {f : FuncId} {fn : Func} {args : List LV} {ty sz n : Nat} {g : Nat → List LV} (hx : FnText P f fn args.length) (hg : ∀ i, i < n → flatL (g i) = true)
    (h : runC P T fn.ntmps (bodyOf fn) (bodyK T fn.results.toList (isNew ty sz n g) (fun _ _ => False) St.nil) (St.nil.enter args)) : CtN P f args ty sz n g :=
  CtN.ofCall hg (CallA.body hT hx h)

theorem CtN.after {org : Me} {st : St} {m : Me} {tm : Array Value} (hO : Ok org st m tm) {ty sz n : Nat} {g : Nat → List LV} (hg : ∀ i, i < n → flatL (g i) = true) {w' : World} {y : Value} {xs : List Value} (hk : Kept m.w w') (h1 : w'.ownsRow m.w.heap.size ty sz y n xs) (h2 : ∀ u ∈ xs, u.oneCell' = true)
    (h3 : ∀ i, i < n → ∃ ys, RepL (Me.base w' (fun _ => False) (fun _ h => h.elim)) 0 (g i) ys ∧ ys.length = sz ∧ (xs.drop (i * sz)).take sz = ys) : ∃ m', m'.w = w' ∧ Ok org (st.new (.arr ty sz n g)) m' tm ∧ Rep m' (st.next + 1) (.ls st.next n) y := by
  have hblk : ∀ k, blkOf y = some k → m.w.heap.size ≤ k ∧ k < w'.heap.size := fun k hk1 => by
    rcases h1.2 with ⟨rfl, _⟩ | ⟨gg, cap, cur, rfl, e1, e2, _⟩
    · simp [blkOf] at hk1
    · simp only [blkOf, Option.some.injEq] at hk1
      subst hk1
      exact ⟨e1, (Array.getElem?_eq_some_iff.1 e2).1⟩
  have hrow : w'.ownsRow 0 ty sz y n xs := ⟨h1.1, h1.2.imp id fun ⟨gg, cap, cur, e1, _, e3⟩ => ⟨gg, cap, cur, e1, Nat.zero_le _, e3⟩⟩
  have hG := hO.grow w' y (.arr ty sz n g) none st.objs hk.sys hk.size (fun k h => (hblk k h).2) (fun k h _ => hk.keep k h) (fun o h => by cases h) (fun k ob' h => ⟨h, by simp⟩) (fun k h => .inl (hblk k h).1)
    ⟨xs, hrow, h2, fun i hi => by
      obtain ⟨ys, e1, e2, e3⟩ := h3 i hi
      exact ⟨ys, RepL.flat _ _ (hg i hi) e1, e2, e3⟩⟩
  refine ⟨_, rfl, ?_, Nat.lt_succ_self _, hG.2.2.symm, ?_⟩
  · cases st; exact hG.1
  · rcases h1.2 with ⟨rfl, e⟩ | ⟨gg, cap, cur, rfl, _⟩
    · exact ⟨none, 0, by rw [hG.2.2, e], .inl ⟨rfl, e⟩⟩
    · exact ⟨_, cap, hG.2.2, .inr ⟨_, rfl⟩⟩

theorem CtN.call {P : Program} {f : FuncId} {args : List LV} {ty sz n : Nat} {g : Nat → List LV} (h : CtN P f args ty sz n g) {k : LV → St → Prop} {kp : Value → St → Prop} {st : St} (hc : underL 0 args = true) (hk : k (.ls st.next n) (st.new (.arr ty sz n g))) : CallA P f args k kp st := by
  refine ⟨h.1, fun org m tm vs hO hargs => ?_⟩
  have h1 := closedL (m := m) (m' := Me.base m.w m.vo m.lt) rfl (fun k h => h) _ _ (RepL.down _ _ hc hargs)
  refine (h.2.2 m.w m.vo m.lt vs h1).mono ?_
  rintro e w' ⟨y, xs, rfl, hkept, e1, e2, e3⟩
  obtain ⟨m', h2, h3, h4⟩ := CtN.after hO h.2.1 hkept e1 e2 e3
  refine ⟨_, m', h2, h3, .inl ⟨y, _, rfl, ?_, hk⟩⟩
  cases st; exact h4

/-- handed slices of the call's own -/
theorem CtN.callV {P : Program} {f : FuncId} {args0 args : List LV} {ty sz n : Nat} {g : Nat → List LV} (h : CtN P f args ty sz n g) {k : LV → St → Prop} {kp : Value → St → Prop} {st : St} (ha : fzL st.objs args0 = args) (hc : underL 0 args = true) (hk : k (.ls st.next n) (st.new (.arr ty sz n g))) : CallA P f args0 k kp st := by
  subst ha
  refine ⟨h.1, fun org m tm vs hO hargs => ?_⟩
  have h1 := fzL_sound hO.sim (vo := fun _ => False) (fun _ h => h.elim) (fun _ h => h.elim) args0 vs hargs hc
  refine (h.2.2 m.w (fun _ => False) (fun _ h => h.elim) vs h1).mono ?_
  rintro e w' ⟨y, xs, rfl, hkept, e1, e2, e3⟩
  obtain ⟨m', h2, h3, h4⟩ := CtN.after hO h.2.1 hkept e1 e2 e3
  refine ⟨_, m', h2, h3, .inl ⟨y, _, rfl, ?_, hk⟩⟩
  cases st; exact h4

/-- a slice that is kept for good, where a new one is spoken of -/
theorem CtN.toCt {P : Program} {f : FuncId} {args : List LV} {ty sz n : Nat} {g : Nat → List LV} (h : CtN P f args ty sz n g) : Ct P f args (.sl sz n g) := by
  refine ⟨h.1, fun w vo lt vs hargs => ?_⟩
  refine (h.2.2 w vo lt vs hargs).mono ?_
  rintro e w' ⟨y, xs, rfl, hk, e1, e2, e3⟩
  have lt' : ∀ k, vo k → k < w'.heap.size := fun k h => Nat.lt_of_lt_of_le (lt k h) hk.size
  refine ⟨y, lt', rfl, hk, ?_⟩
  rcases e1.2 with ⟨rfl, rfl⟩ | ⟨gg, cap, cur, rfl, q1, q2, q3, q4, q5, q6⟩
  · exact ⟨none, 0, rfl, Nat.le_refl _, by omega, fun _ => ⟨rfl, rfl⟩, fun h => absurd h (by omega)⟩
  · refine ⟨_, cap, rfl, q3, by unfold maxLen at q4; omega, (by intro h; cases h), fun h0 => ⟨gg, 0, rfl, fun hv => ?_, (Array.getElem?_eq_some_iff.1 q2).1, fun i hi => ?_⟩⟩
    · have := lt gg hv; omega
    · obtain ⟨ys, q7, q8, q9⟩ := e3 i hi
      refine ⟨ys, RepL.flat _ _ (h.2.1 i hi) q7, q8, ?_⟩
      rw [Nat.zero_add]
      exact cellsAt_own q2 q6 e2 hi q9

end Go.Proofs.Aw
