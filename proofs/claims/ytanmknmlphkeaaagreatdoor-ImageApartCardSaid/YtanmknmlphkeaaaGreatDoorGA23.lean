/- A PART OF THE PROOF: an abstract run of the loaded code over value trees, and the functions walked by it. No condition of its own. -/
import Derived.Test.YtanmknmlphkeaaaGreatDoorGA20
namespace Go.Proofs.Aw
open Go Go.RowKit

/-! ### functions that hand out a new slice -/
/-- called with these, function f hands out a new slice of n elements, and leaves all memory as it was -/
def CtN (P : Program) (f : FuncId) (args : List LV) (ty sz n : Nat) (g : Nat → List LV) : Prop :=
  FnOk P f ∧ (∀ i, i < n → flatL (g i) = true) ∧ ∀ w vo lt vs, RepL (Me.base w vo lt) 0 args vs → Calls P f vs.toArray w fun e w' => ∃ y xs, e = .returned y ∧ Kept w w' ∧ w'.ownsRow w.heap.size ty sz y n xs ∧ (∀ u ∈ xs, u.oneCell' = true) ∧ ∀ i, i < n → ∃ ys, RepL (Me.base w' (fun _ => False) (fun _ h => h.elim)) 0 (g i) ys ∧ ys.length = sz ∧ (xs.drop (i * sz)).take sz = ys

/-- what comes back is a new slice, so told -/
def isNew (ty sz n : Nat) (g : Nat → List LV) (x : LV) (st : St) : Prop := match x with
  | .ls o n' => match lookO o st.objs with
    | some (.arr ty' sz' n0 g') => (ty' = ty ∧ sz' = sz ∧ n' = n) ∧ ∀ i, i < n → g' i = g i
    | _ => False
  | .v (.slice none 0 0) => n = 0
  | _ => False

theorem CtN.ofCall {P : Program} {f : FuncId} {args : List LV} {ty sz n : Nat} {g : Nat → List LV} (hg : ∀ i, i < n → flatL (g i) = true) (h : CallA P f args (isNew ty sz n g) (fun _ _ => False) St.nil) : CtN P f args ty sz n g := by
  refine ⟨h.1, hg, fun w vo lt vs hargs => ?_⟩
  refine (h.2 (Me.base w vo lt) (Me.base w vo lt) #[] vs (Ok.base w vo lt) hargs).mono ?_
  rintro e w' ⟨st', m', rfl, h1, h2⟩
  rcases h2 with ⟨y, x, rfl, h3, h4⟩ | ⟨x, _, h3⟩
  · have hk := Kept.of h1.fr
    unfold isNew at h4
    split at h4
    · rename_i o n'
      split at h4
      rotate_left
      · exact h4.elim
      rename_i ty' sz' n0 g' ho
      obtain ⟨⟨rfl, rfl, rfl⟩, h5⟩ := h4
      obtain ⟨q1, rfl, A, c, q2, q3⟩ := h3
      obtain ⟨_, ⟨xs, h6, h7, h8⟩, h9⟩ := h1.sim.obj o _ ho
      have hnn : n0 = n' := by
        rw [q2] at h6
        rcases h6.2 with ⟨e1, e2⟩ | ⟨gg, cap, cur, e1, _⟩
        · injection e1 with _ e3 _; omega
        · injection e1 with _ e3 _; exact e3.symm
      subst hnn
      refine ⟨_, xs, rfl, hk, ⟨h6.1, ?_⟩, h7, fun i hi => ?_⟩
      · rcases h6.2 with e1 | ⟨gg, cap, cur, e1, _, e3⟩
        · exact .inl e1
        · refine .inr ⟨gg, cap, cur, e1, ?_, e3⟩
          have := (h9 gg (by rw [e1]; rfl)).1
          rcases h1.fr.wr gg this with h | h
          · exact h.elim
          · exact h
      · obtain ⟨ys, e1, e2, e3⟩ := h8 i hi
        rw [h5 i hi] at e1
        exact ⟨ys, RepL.flat _ _ (hg i hi) e1, e2, e3⟩
    · subst h4
      have : y = .slice none 0 0 := h3
      subst this
      exact ⟨_, [], rfl, hk, ⟨by simp, .inl ⟨rfl, rfl⟩⟩, by simp, fun i hi => absurd hi (by omega)⟩
    · exact h4.elim
  · exact h3.elim

theorem CtN.enter {P : Program} {T : Tab} (hT : T.Ok P) {f : FuncId} {fn : Func} {args : List LV} {ty sz n : Nat} {g : Nat → List LV} (hx : FnText P f fn args.length) (hg : ∀ i, i < n → flatL (g i) = true)
    (h : runC P T fn.ntmps (bodyOf fn) (bodyK T fn.results.toList (isNew ty sz n g) (fun _ _ => False) St.nil) (St.nil.enter args)) : CtN P f args ty sz n g :=
  CtN.ofCall hg (CallA.body hT hx h)

theorem CtN.after {org : Me} {st : St} {m : Me} {tm : Array Value} (hO : Ok org st m tm) {ty sz n : Nat} {g : Nat → List LV} (hg : ∀ i, i < n → flatL (g i) = true) {w' : World} {y : Value} {xs : List Value} (hk : Kept m.w w') (h1 : w'.ownsRow m.w.heap.size ty sz y n xs) (h2 : ∀ u ∈ xs, u.oneCell' = true)
    (h3 : ∀ i, i < n → ∃ ys, RepL (Me.base w' (fun _ => False) (fun _ h => h.elim)) 0 (g i) ys ∧ ys.length = sz ∧ (xs.drop (i * sz)).take sz = ys) : ∃ m', m'.w = w' ∧ Ok org (st.new (.arr ty sz n g)) m' tm ∧ Rep m' (st.next + 1) (.ls st.next n) y := by
  have hblk : ∀ k, blkOf y = some k → m.w.heap.size ≤ k ∧ k < w'.heap.size := fun k hk1 => by
    rcases h1.2 with ⟨rfl, _⟩ | ⟨gg, cap, cur, rfl, e1, e2, _⟩
    · simp [blkOf] at hk1
    · simp only [blkOf, Option.some.injEq] at hk1
      subst hk1
      exact ⟨e1, (Array.getElem?_eq_some_iff.1 e2).1⟩
  have hrow : w'.ownsRow 0 ty sz y n xs := ⟨h1.1, h1.2.imp id fun ⟨gg, cap, cur, e1, _, e3⟩ => ⟨gg, cap, cur, e1, Nat.zero_le _, e3⟩⟩
  have hG := hO.grow w' y (.arr ty sz n g) none st.objs hk.sys hk.size (fun k h => (hblk k h).2) (fun k h _ => hk.keep k h) (fun o h => by cases h) (fun k ob' h => ⟨h, by simp⟩) (fun k h => .inl (hblk k h).1)
    ⟨xs, hrow, h2, fun i hi => by
      obtain ⟨ys, e1, e2, e3⟩ := h3 i hi
      exact ⟨ys, RepL.flat _ _ (hg i hi) e1, e2, e3⟩⟩
  refine ⟨_, rfl, ?_, Nat.lt_succ_self _, hG.2.2.symm, ?_⟩
  · cases st; exact hG.1
  · rcases h1.2 with ⟨rfl, e⟩ | ⟨gg, cap, cur, rfl, _⟩
    · exact ⟨none, 0, by rw [hG.2.2, e], .inl ⟨rfl, e⟩⟩
    · exact ⟨_, cap, hG.2.2, .inr ⟨_, rfl⟩⟩

theorem CtN.call {P : Program} {f : FuncId} {args : List LV} {ty sz n : Nat} {g : Nat → List LV} (h : CtN P f args ty sz n g) {k : LV → St → Prop} {kp : Value → St → Prop} {st : St} (hc : underL 0 args = true) (hk : k (.ls st.next n) (st.new (.arr ty sz n g))) : CallA P f args k kp st := by
  refine ⟨h.1, fun org m tm vs hO hargs => ?_⟩
  have h1 := closedL (m := m) (m' := Me.base m.w m.vo m.lt) rfl (fun k h => h) _ _ (RepL.down _ _ hc hargs)
  refine (h.2.2 m.w m.vo m.lt vs h1).mono ?_
  rintro e w' ⟨y, xs, rfl, hkept, e1, e2, e3⟩
  obtain ⟨m', h2, h3, h4⟩ := CtN.after hO h.2.1 hkept e1 e2 e3
  refine ⟨_, m', h2, h3, .inl ⟨y, _, rfl, ?_, hk⟩⟩
  cases st; exact h4

/-- handed slices of the call's own -/
theorem CtN.callV {P : Program} {f : FuncId} {args0 args : List LV} {ty sz n : Nat} {g : Nat → List LV} (h : CtN P f args ty sz n g) {k : LV → St → Prop} {kp : Value → St → Prop} {st : St} (ha : fzL st.objs args0 = args) (hc : underL 0 args = true) (hk : k (.ls st.next n) (st.new (.arr ty sz n g))) : CallA P f args0 k kp st := by
  subst ha
  refine ⟨h.1, fun org m tm vs hO hargs => ?_⟩
  have h1 := fzL_sound hO.sim (vo := fun _ => False) (fun _ h => h.elim) (fun _ h => h.elim) args0 vs hargs hc
  refine (h.2.2 m.w (fun _ => False) (fun _ h => h.elim) vs h1).mono ?_
  rintro e w' ⟨y, xs, rfl, hkept, e1, e2, e3⟩
  obtain ⟨m', h2, h3, h4⟩ := CtN.after hO h.2.1 hkept e1 e2 e3
  refine ⟨_, m', h2, h3, .inl ⟨y, _, rfl, ?_, hk⟩⟩
  cases st; exact h4

/-- a slice that is kept for good, where a new one is spoken of -/
theorem CtN.toCt {P : Program} {f : FuncId} {args : List LV} {ty sz n : Nat} {g : Nat → List LV} (h : CtN P f args ty sz n g) : Ct P f args (.sl sz n g) := by
  refine ⟨h.1, fun w vo lt vs hargs => ?_⟩
  refine (h.2.2 w vo lt vs hargs).mono ?_
  rintro e w' ⟨y, xs, rfl, hk, e1, e2, e3⟩
  have lt' : ∀ k, vo k → k < w'.heap.size := fun k h => Nat.lt_of_lt_of_le (lt k h) hk.size
  refine ⟨y, lt', rfl, hk, ?_⟩
  rcases e1.2 with ⟨rfl, rfl⟩ | ⟨gg, cap, cur, rfl, q1, q2, q3, q4, q5, q6⟩
  · exact ⟨none, 0, rfl, Nat.le_refl _, by omega, fun _ => ⟨rfl, rfl⟩, fun h => absurd h (by omega)⟩
  · refine ⟨_, cap, rfl, q3, by unfold maxLen at q4; omega, (by intro h; cases h), fun h0 => ⟨gg, 0, rfl, fun hv => ?_, (Array.getElem?_eq_some_iff.1 q2).1, fun i hi => ?_⟩⟩
    · have := lt gg hv; omega
    · obtain ⟨ys, q7, q8, q9⟩ := e3 i hi
      refine ⟨ys, RepL.flat _ _ (h.2.1 i hi) q7, q8, ?_⟩
      rw [Nat.zero_add]
      exact cellsAt_own q2 q6 e2 hi q9

end Go.Proofs.Aw
namespace Go.Proofs.Aw
open Go Go.RowKit

/-- by its contract, handed slices of the call's own as views; a new slice comes back -/
theorem CtN.callL {P : Program} {f : FuncId} {args0 args : List LV} {ty sz n : Nat} {g : Nat → List LV} (h : CtN P f args ty sz n g) {k : LV → St → Prop} {kp : Value → St → Prop} {st : St} (hc : underL 0 (fzL st.objs args0) = true) (ha : leL (fzL st.objs args0) args) (hk : k (.ls st.next n) (st.new (.arr ty sz n g))) : CallA P f args0 k kp st := by
  refine ⟨h.1, fun org m tm vs hO hargs => ?_⟩
  have h1 := RepL.le ha (fzL_sound hO.sim (vo := fun _ => False) (fun _ h => h.elim) (fun _ h => h.elim) args0 vs hargs hc)
  refine (h.2.2 m.w (fun _ => False) (fun _ h => h.elim) vs h1).mono ?_
  rintro e w' ⟨y, xs, rfl, hkept, e1, e2, e3⟩
  obtain ⟨m', h2, h3, h4⟩ := CtN.after hO h.2.1 hkept e1 e2 e3
  refine ⟨_, m', h2, h3, .inl ⟨y, _, rfl, ?_, hk⟩⟩
  cases st; exact h4

/-- by its contract, handed slices of the call's own as views; what comes back lies nowhere in memory -/
theorem Ct.callF {P : Program} {f : FuncId} {args0 args : List LV} {res : LV} (h : Ct P f args res) {k : LV → St → Prop} {kp : Value → St → Prop} {st : St} (hc : underL 0 (fzL st.objs args0) = true) (ha : leL (fzL st.objs args0) args) (hf : res.flat = true) (hk : k res st) : CallA P f args0 k kp st := by
  refine ⟨h.1, fun org m tm vs hO hargs => ?_⟩
  have h1 := RepL.le ha (fzL_sound hO.sim (vo := fun _ => False) (fun _ h => h.elim) (fun _ h => h.elim) args0 vs hargs hc)
  refine (h.2 m.w (fun _ => False) (fun _ h => h.elim) vs h1).mono ?_
  rintro e w' ⟨y, lt', rfl, hkept, hr⟩
  obtain ⟨h2, h3⟩ := hO.drew w' hkept.sys hkept.size hkept.keep
  exact ⟨st, m.on w' hkept.size, rfl, h2, .inl ⟨y, res, rfl, Rep.flat _ _ hf hr, hk⟩⟩

/-- by its contract, all that is handed being closed -/
theorem Ct.callC {P : Program} {f : FuncId} {args0 args : List LV} {res : LV} (h : Ct P f args res) {k : LV → St → Prop} {kp : Value → St → Prop} {st : St} (hc : underL 0 args0 = true) (ha : leL args0 args) (hk : k res st) : CallA P f args0 k kp st := by
  refine ⟨h.1, fun org m tm vs hO hargs => ?_⟩
  have h1 := RepL.le ha (closedL (m := m) (m' := Me.base m.w m.vo m.lt) rfl (fun k h => h) _ _ (RepL.down _ _ hc hargs))
  refine (h.2 m.w m.vo m.lt vs h1).mono ?_
  rintro e w' ⟨y, lt', rfl, hkept, hr⟩
  obtain ⟨h2, h3⟩ := hO.drew w' hkept.sys hkept.size hkept.keep
  refine ⟨st, m.on w' hkept.size, rfl, h2, .inl ⟨y, res, rfl, ?_, hk⟩⟩
  have := closed (m := Me.base w' m.vo lt') (m' := m.on w' hkept.size) rfl (fun k h => h) _ _ hr
  exact this.up (Nat.zero_le _) (Nat.zero_le _)

end Go.Proofs.Aw
namespace Go.Proofs.Aw
open Go
mutual
theorem LV.under_mono {N M : Nat} (h : N ≤ M) : ∀ (x : LV), x.under N = true → x.under M = true
  | .any, _ => rfl
  | .v _, _ => rfl
  | .bs _, _ => rfl
  | .ly _ _ _, _ => rfl
  | .str _, _ => rfl
  | .sl _ _ _, _ => rfl
  | .sp _ _, _ => rfl
  | .agg cs, hu => by simp only [LV.under] at hu ⊢; exact underL_mono h cs hu
  | .tup cs, hu => by simp only [LV.under] at hu ⊢; exact underL_mono h cs hu
  | .lp o _, hu => by simp only [LV.under, Nat.blt_eq] at hu ⊢; omega
  | .el o _ _ _, hu => by simp only [LV.under, Nat.blt_eq] at hu ⊢; omega
  | .ls o _, hu => by simp only [LV.under, Nat.blt_eq] at hu ⊢; omega
  | .as o _ _, hu => by simp only [LV.under, Nat.blt_eq] at hu ⊢; omega
  | .mp o, hu => by simp only [LV.under, Nat.blt_eq] at hu ⊢; omega
  | .clo _ a b, hu => by
    simp only [LV.under, Bool.and_eq_true] at hu ⊢
    exact ⟨underL_mono h a hu.1, underL_mono h b hu.2⟩
theorem underL_mono {N M : Nat} (h : N ≤ M) : ∀ (xs : List LV), underL N xs = true → underL M xs = true
  | [], _ => rfl
  | x :: xs, hu => by
    simp only [underL, Bool.and_eq_true] at hu ⊢
    exact ⟨LV.under_mono h x hu.1, underL_mono h xs hu.2⟩
end
theorem LO.under_mono {N M : Nat} (h : N ≤ M) {x : LO} (hu : x.under N = true) : x.under M = true := by
  cases x with
  | box _ cs => exact underL_mono h cs hu
  | arr _ _ _ _ => rfl
  | mp => rfl
end Go.Proofs.Aw
namespace Go.Proofs.Aw
open Go
theorem LO.le.arrL {ty sz n n' : Nat} {g g' : Nat → List LV} (hn : n = n') (h : ∀ i, i < n → leL (g i) (g' i)) : LO.le (.arr ty sz n g) (.arr ty sz n' g') := by
  subst hn
  intro m N y hr
  obtain ⟨xs, h1, h2, h3⟩ := hr
  exact ⟨xs, h1, h2, fun i hi => by
    obtain ⟨ys, e1, e2⟩ := h3 i hi
    exact ⟨ys, RepL.le (h i hi) e1, e2⟩⟩
theorem LV.le.slL {sz n n' : Nat} {g g' : Nat → List LV} (hn : n = n') (h : ∀ i, i < n → leL (g i) (g' i)) : LV.le (.sl sz n g) (.sl sz n' g') := by
  subst hn
  intro m N y hr
  obtain ⟨A, cap, rfl, h1, h2, h3, h4⟩ := hr
  refine ⟨A, cap, rfl, h1, h2, h3, fun h0 => ?_⟩
  obtain ⟨b, off, rfl, h5, h6, h7⟩ := h4 h0
  refine ⟨b, off, rfl, h5, h6, fun i hi => ?_⟩
  obtain ⟨ys, e1, e2⟩ := h7 i hi
  exact ⟨ys, RepL.le (h i hi) e1, e2⟩
theorem leL.of {a b : List LV} (h : a = b) : leL a b := by subst h; exact leL.refl a
end Go.Proofs.Aw
namespace Go.Proofs.Aw
open Go Go.RowKit

/-! ### the nil slice as a slice of the call's own -/
def LV.leW (o : Nat) (x x' : LV) : Prop := ∀ m N y, o < N → m.b o = .slice none 0 0 → Rep m N x y → Rep m N x' y
theorem LV.leW.of {o : Nat} {x x' : LV} (h : LV.le x x') : LV.leW o x x' := fun m N y _ _ hr => h m N y hr
theorem LV.leW.refl {o : Nat} (x : LV) : LV.leW o x x := fun m N y _ _ hr => hr
theorem LV.leW.nil {o : Nat} : LV.leW o (.v (.slice none 0 0)) (.ls o 0) := fun m N y h1 h2 hr => by
  have hr : y = .slice none 0 0 := hr
  subst hr
  exact ⟨h1, h2.symm, none, 0, h2, .inl ⟨rfl, rfl⟩⟩
def leLW (o : Nat) : List LV → List LV → Prop
  | [], l => l = []
  | x :: xs, l => ∃ x' xs', l = x' :: xs' ∧ LV.leW o x x' ∧ leLW o xs xs'
theorem RepL.leW {o : Nat} {m : Me} {N : Nat} (h1 : o < N) (h2 : m.b o = .slice none 0 0) : ∀ {xs xs' : List LV} {ys : List Value}, leLW o xs xs' → RepL m N xs ys → RepL m N xs' ys
  | [], _, _, h, hr => by rw [show _ = [] from h]; exact hr
  | x :: xs, _, ys, h, hr => by
    obtain ⟨x', xs', rfl, h3, h4⟩ := h
    obtain ⟨y, r, rfl, h5, h6⟩ := hr
    exact ⟨y, r, rfl, h3 _ _ _ h1 h2 h5, RepL.leW h1 h2 h4 h6⟩
def LO.leW (o : Nat) (a b : LO) : Prop := ∀ m N y, o < N → m.b o = .slice none 0 0 → RepO m N a y → RepO m N b y
theorem LO.leW.of {o : Nat} {a b : LO} (h : LO.le a b) : LO.leW o a b := fun m N y _ _ hr => h m N y hr
theorem LO.leW.refl {o : Nat} (a : LO) : LO.leW o a a := fun m N y _ _ hr => hr
theorem LO.leW.box {o : Nat} {ty : TypeId} {cs cs' : List LV} (h : leLW o cs cs') : LO.leW o (.box ty cs) (.box ty cs') := by
  intro m N y h1 h2 hr
  obtain ⟨b, ys, rfl, e1, e2, e3⟩ := hr
  exact ⟨b, ys, rfl, e1, RepL.leW h1 h2 h e2, e3⟩
def leEW (st : St) (o N : Nat) : List (Nat × LV) → Prop
  | [] => True
  | (k, x) :: r => LV.leW o (look k st.env) x ∧ LV.under N x = true ∧ leEW st o N r
def leOW (st : St) (o N : Nat) : List (Nat × LO) → Prop
  | [] => True
  | (j, ob) :: r => (∃ ob0, lookO j st.objs = some ob0 ∧ LO.leW o ob0 ob) ∧ Nat.blt j N = true ∧ LO.under N ob = true ∧ leOW st o N r
theorem leEW.look {st : St} {o N : Nat} : ∀ {e : List (Nat × LV)}, leEW st o N e → ∀ k, LV.leW o (look k st.env) (look k e) ∧ LV.under N (look k e) = true
  | [], _, k => ⟨.of (LV.le.any _), rfl⟩
  | (j, x) :: r, h, k => by
    obtain ⟨h1, h2, h3⟩ := h
    by_cases e : k = j
    · subst e; simp only [Aw.look, beqT]; exact ⟨h1, h2⟩
    · simp only [Aw.look, beqF e]; exact leEW.look h3 k
theorem leOW.look {st : St} {o N : Nat} : ∀ {e : List (Nat × LO)}, leOW st o N e → ∀ j ob, lookO j e = some ob → (∃ ob0, lookO j st.objs = some ob0 ∧ LO.leW o ob0 ob) ∧ j < N ∧ LO.under N ob = true
  | [], _, j, ob, h => by simp [lookO] at h
  | (i, x) :: r, h, j, ob, ho => by
    obtain ⟨h1, h2, h3, h4⟩ := h
    by_cases e : j = i
    · subst e; simp only [lookO, beqT, Option.some.injEq] at ho; subst ho; exact ⟨h1, by simpa [Nat.blt_eq] using h2, h3⟩
    · simp only [lookO, beqF e] at ho; exact leOW.look h4 j ob ho

/-- st with one more object, number 'st.next': an empty row, which the nil slice is -/
structure St.own (ty sz : Nat) (st st' : St) : Prop where
  low : st'.low = st.low
  next : st'.next = st.next + 1
  env : leEW st st.next st'.next st'.env
  objs : leOW (st.new (.arr ty sz 0 fun _ => [])) st.next st'.next st'.objs

theorem St.to.own {ty sz : Nat} {st st' : St} (h : St.own ty sz st st') : St.to st st' := by
  intro org m tm hO
  have e := hO.sim.n
  have hG := hO.grow m.w (.slice none 0 0) (.arr ty sz 0 fun _ => []) none st.objs (SameSys.refl _) (Nat.le_refl _) (fun k h => by simp [blkOf] at h) (fun _ _ _ => rfl) (fun o h => by cases h) (fun k ob' h => ⟨h, by simp⟩) (fun k h => by simp [blkOf] at h)
    ⟨[], own_nil0 _ _ _, by simp, fun i hi => absurd hi (by omega)⟩
  obtain ⟨h1, h2, h3⟩ := hG
  refine ⟨m.grow m.w (.slice none 0 0) (Nat.le_refl _) (fun k h => by simp [blkOf] at h), rfl, ⟨⟨?_, fun k hk => ?_, fun o ob ho => ?_, fun o o' ob ob' ha hb hne k hk => ?_⟩, h1.fr, h.low.trans hO.low⟩⟩
  · rw [h.next]; exact h1.sim.n
  · obtain ⟨q1, q2⟩ := h.env.look k
    rw [h.next] at q2 ⊢
    exact q1 _ _ _ (Nat.lt_succ_self _) h3 (h1.sim.env k hk)
  · obtain ⟨⟨ob0, q1, q2⟩, q3, q4⟩ := h.objs.look o ob ho
    have q1' : lookO o ((st.next, LO.arr ty sz 0 fun _ => []) :: st.objs) = some ob0 := by cases st; exact q1
    obtain ⟨r1, r2, r3⟩ := h1.sim.obj o ob0 q1'
    rw [h.next] at q3 q4 ⊢
    exact ⟨q3, q2 _ _ _ (Nat.lt_succ_self _) h3 r2, r3⟩
  · obtain ⟨⟨a, q1, _⟩, _⟩ := h.objs.look o ob ha
    obtain ⟨⟨b, q2, _⟩, _⟩ := h.objs.look o' ob' hb
    have q1' : lookO o ((st.next, LO.arr ty sz 0 fun _ => []) :: st.objs) = some a := by cases st; exact q1
    have q2' : lookO o' ((st.next, LO.arr ty sz 0 fun _ => []) :: st.objs) = some b := by cases st; exact q2
    exact h1.sim.apart o o' a b q1' q2' hne k hk

/-! ### objects under other numbers -/
def sw (a b o : Nat) : Nat := match Nat.beq o a with
  | true => b
  | false => o
mutual
def LV.sw (a b : Nat) : LV → LV
  | .agg cs => .agg (swL a b cs)
  | .tup cs => .tup (swL a b cs)
  | .lp o f => .lp (Aw.sw a b o) f
  | .el o s i f => .el (Aw.sw a b o) s i f
  | .ls o n => .ls (Aw.sw a b o) n
  | .as o f n => .as (Aw.sw a b o) f n
  | .mp o => .mp (Aw.sw a b o)
  | .clo fn x y => .clo fn (swL a b x) (swL a b y)
  | x => x
def swL (a b : Nat) : List LV → List LV
  | [] => []
  | x :: xs => x.sw a b :: swL a b xs
end
def Me.swap (m : Me) (a b N : Nat) : Me := { m with b := fun o => m.b (sw a b o), n := N }
mutual
theorem Rep.swap {m : Me} {a b M N : Nat} : ∀ (x : LV) (y : Value), x.under N = true → Rep m M (x.sw a b) y → Rep (m.swap a b N) N x y
  | .any, _, _, _ => trivial
  | .v _, _, _, h => h
  | .bs _, _, _, h => h
  | .ly _ _ _, _, _, h => h
  | .str _, _, _, h => h
  | .sl sz n g, y, _, h => closed (m := m) (m' := m.swap a b N) rfl (fun k h => h) _ _ (Rep.down (.sl sz n g) y rfl h)
  | .sp cs off, y, _, h => closed (m := m) (m' := m.swap a b N) rfl (fun k h => h) _ _ (Rep.down (.sp cs off) y rfl h)
  | .agg cs, y, hu, h => by
    obtain ⟨ys, rfl, h1, h2⟩ := h
    exact ⟨ys, rfl, RepL.swap cs ys (by simpa [LV.under] using hu) h1, h2⟩
  | .tup cs, y, hu, h => by
    obtain ⟨ys, rfl, h1⟩ := h
    exact ⟨ys, rfl, RepL.swap cs ys (by simpa [LV.under] using hu) h1⟩
  | .lp o _, y, hu, h => ⟨by simpa [LV.under, Nat.blt_eq] using hu, h.2⟩
  | .el o _ _ _, y, hu, h => ⟨by simpa [LV.under, Nat.blt_eq] using hu, h.2⟩
  | .ls o _, y, hu, h => ⟨by simpa [LV.under, Nat.blt_eq] using hu, h.2⟩
  | .as o _ _, y, hu, h => ⟨by simpa [LV.under, Nat.blt_eq] using hu, h.2⟩
  | .mp o, y, hu, h => ⟨by simpa [LV.under, Nat.blt_eq] using hu, h.2⟩
  | .clo _ x z, y, hu, h => by
    obtain ⟨fs, cs, rfl, h1, h2⟩ := h
    simp only [LV.under, Bool.and_eq_true] at hu
    exact ⟨fs, cs, rfl, RepL.swap x fs hu.1 h1, RepL.swap z cs hu.2 h2⟩
theorem RepL.swap {m : Me} {a b M N : Nat} : ∀ (xs : List LV) (ys : List Value), underL N xs = true → RepL m M (swL a b xs) ys → RepL (m.swap a b N) N xs ys
  | [], _, _, h => h
  | x :: xs, ys, hu, h => by
    obtain ⟨y, r, rfl, h1, h2⟩ := h
    simp only [underL, Bool.and_eq_true] at hu
    exact ⟨y, r, rfl, Rep.swap x y hu.1 h1, RepL.swap xs r hu.2 h2⟩
end
def LO.sw (a b : Nat) : LO → LO
  | .box t cs => .box t (swL a b cs)
  | x => x
theorem RepO.swap {m : Me} {a b M N : Nat} {ob : LO} {y : Value} (hu : ob.under N = true) (h : RepO m M (ob.sw a b) y) : RepO (m.swap a b N) N ob y := by
  cases ob with
  | box t cs =>
    obtain ⟨k, ys, rfl, h1, h2, h3⟩ := h
    exact ⟨k, ys, rfl, h1, RepL.swap cs ys hu h2, h3⟩
  | arr t sz n g =>
    obtain ⟨xs, h1, h2, h3⟩ := h
    refine ⟨xs, h1, h2, fun i hi => ?_⟩
    obtain ⟨ys, e1, e2⟩ := h3 i hi
    exact ⟨ys, closedL (m := m) (m' := m.swap a b N) rfl (fun k h => h) _ _ e1, e2⟩
  | mp P kt et n f => exact h
def leES (st : St) (a b N : Nat) : List (Nat × LV) → Prop
  | [] => True
  | (k, x) :: r => LV.le (look k st.env) (x.sw a b) ∧ LV.under N x = true ∧ leES st a b N r
def leOS (st : St) (a b N : Nat) : List (Nat × LO) → Prop
  | [] => True
  | (j, ob) :: r => (∃ ob0, lookO (sw a b j) st.objs = some ob0 ∧ LO.le ob0 (ob.sw a b)) ∧ Nat.blt j N = true ∧ LO.under N ob = true ∧ leOS st a b N r
theorem leES.look {st : St} {a b N : Nat} : ∀ {e : List (Nat × LV)}, leES st a b N e → ∀ k, LV.le (look k st.env) ((look k e).sw a b) ∧ LV.under N (look k e) = true
  | [], _, k => ⟨LV.le.any _, rfl⟩
  | (j, x) :: r, h, k => by
    obtain ⟨h1, h2, h3⟩ := h
    by_cases e : k = j
    · subst e; simp only [Aw.look, beqT]; exact ⟨h1, h2⟩
    · simp only [Aw.look, beqF e]; exact leES.look h3 k
theorem leOS.look {st : St} {a b N : Nat} : ∀ {e : List (Nat × LO)}, leOS st a b N e → ∀ j ob, lookO j e = some ob → (∃ ob0, lookO (Aw.sw a b j) st.objs = some ob0 ∧ LO.le ob0 (ob.sw a b)) ∧ j < N ∧ LO.under N ob = true
  | [], _, j, ob, h => by simp [lookO] at h
  | (i, x) :: r, h, j, ob, ho => by
    obtain ⟨h1, h2, h3, h4⟩ := h
    by_cases e : j = i
    · subst e; simp only [lookO, beqT, Option.some.injEq] at ho; subst ho; exact ⟨h1, by simpa [Nat.blt_eq] using h2, h3⟩
    · simp only [lookO, beqF e] at ho; exact leOS.look h4 j ob ho

/-- what is object b in st is object a in st' -/
structure St.ren (a b : Nat) (st st' : St) : Prop where
  low : st'.low = st.low
  nums : Nat.ble st'.low a = true ∧ Nat.ble st'.next b = true ∧ Nat.ble st'.low st'.next = true ∧ st'.next ≤ st.next
  env : leES st a b st'.next st'.env
  objs : leOS st a b st'.next st'.objs
theorem sw_inj {a b o o' N : Nat} (hb : N ≤ b) (h1 : o < N) (h2 : o' < N) (h : sw a b o = sw a b o') : o = o' := by
  unfold sw at h
  by_cases e : o = a
  · subst e
    by_cases e' : o' = o
    · exact e'.symm
    · simp only [beqT, beqF e'] at h; omega
  · by_cases e' : o' = a
    · subst e'; simp only [beqT, beqF e] at h; omega
    · simp only [beqF e, beqF e'] at h; exact h
theorem St.to.ren {a b : Nat} {st st' : St} (h : St.ren a b st st') : St.to st st' := by
  intro org m tm hO
  obtain ⟨n1, n2, n3, n4⟩ := h.nums
  rw [Nat.ble_eq] at n1 n2 n3
  have hl := h.low
  have hl2 := hO.low
  have f := hO.fr
  refine ⟨m.swap a b st'.next, rfl, ⟨⟨rfl, fun k hk => ?_, fun o ob ho => ?_, fun o o' ob ob' ha hb hne k hk => ?_⟩, ⟨f.os, f.tape, f.output, f.size, f.keep, f.wr, f.vo, f.vk, fun o ho => ?_, by show org.n ≤ st'.next; omega⟩, h.low.trans hO.low⟩⟩
  · obtain ⟨q1, q2⟩ := h.env.look k
    exact Rep.swap _ _ q2 (q1 _ _ _ (hO.sim.env k hk))
  · obtain ⟨⟨ob0, q1, q2⟩, q3, q4⟩ := h.objs.look o ob ho
    obtain ⟨r1, r2, r3⟩ := hO.sim.obj _ ob0 q1
    exact ⟨q3, RepO.swap q4 (q2 _ _ _ r2), r3⟩
  · obtain ⟨⟨x, q1, _⟩, q3, _⟩ := h.objs.look o ob ha
    obtain ⟨⟨z, q2, _⟩, q4, _⟩ := h.objs.look o' ob' hb
    exact hO.sim.apart _ _ x z q1 q2 (fun e => hne (sw_inj n2 q3 q4 e)) k hk
  · show m.b (sw a b o) = org.b o
    have : sw a b o = o := by unfold sw; rw [beqF (by omega)]
    rw [this]
    exact f.b o ho

/-- the nil slice, as a slice that stays -/
theorem LV.le.nil {sz : Nat} {g : Nat → List LV} : LV.le (.v (.slice none 0 0)) (.sl sz 0 g) := fun m N y h => by
  have h : y = .slice none 0 0 := h
  subst h
  exact ⟨none, 0, rfl, Nat.le_refl _, by omega, fun _ => ⟨rfl, rfl⟩, fun h => absurd h (by omega)⟩

end Go.Proofs.Aw
namespace Go.Proofs.Aw
open Go Go.RowKit

/-! ### own slices that are written no more -/
/-- is o one of these -/
def among (F : List Nat) (o : Nat) : Bool := match F with
  | [] => false
  | j :: r => match Nat.beq o j with
    | true => true
    | false => among r o
mutual
/-- the own slices of F as slices that stay -/
def LV.frz (F : List Nat) (objs : List (Nat × LO)) : LV → LV
  | .ls o n => match among F o with
    | true => match lookO o objs with
      | some (.arr _ sz _ g) => .sl sz n g
      | _ => .any
    | false => .ls o n
  | .agg cs => .agg (frzL F objs cs)
  | .tup cs => .tup (frzL F objs cs)
  | .clo fn a b => .clo fn (frzL F objs a) (frzL F objs b)
  | x => x
def frzL (F : List Nat) (objs : List (Nat × LO)) : List LV → List LV
  | [] => []
  | x :: xs => x.frz F objs :: frzL F objs xs
end
def frzE (F : List Nat) (objs : List (Nat × LO)) : List (Nat × LV) → List (Nat × LV)
  | [] => []
  | (k, x) :: r => (k, x.frz F objs) :: frzE F objs r
def frzO (F : List Nat) (objs : List (Nat × LO)) : List (Nat × LO) → List (Nat × LO)
  | [] => []
  | (o, x) :: r => match among F o with
    | true => frzO F objs r
    | false => match x with
      | .box t cs => (o, .box t (frzL F objs cs)) :: frzO F objs r
      | .arr t sz n g => (o, .arr t sz n g) :: frzO F objs r
      | .mp P kt et n f => (o, .mp P kt et n f) :: frzO F objs r
def St.frz (F : List Nat) (st : St) : St := match st with
  | ⟨e, o, n, l⟩ => ⟨frzE F o e, frzO F o o, n, l⟩
theorem look_frzE {F : List Nat} {objs : List (Nat × LO)} {k : Nat} : ∀ e, look k (frzE F objs e) = (look k e).frz F objs
  | [] => by simp [frzE, look, LV.frz]
  | (j, x) :: r => by
    by_cases h : k = j
    · subst h; simp only [frzE, look, beqT]
    · simp only [frzE, look, beqF h]; exact look_frzE r
theorem look_frzO {F : List Nat} {objs : List (Nat × LO)} {o : Nat} {ob' : LO} : ∀ {l}, lookO o (frzO F objs l) = some ob' → among F o = false ∧ ∃ ob, lookO o l = some ob ∧ ((∃ t cs, ob = .box t cs ∧ ob' = .box t (frzL F objs cs)) ∨ (∃ t sz n g, ob = .arr t sz n g ∧ ob' = ob) ∨ (∃ P kt et n f, ob = .mp P kt et n f ∧ ob' = ob))
  | [], h => by simp [frzO, lookO] at h
  | (j, x) :: r, h => by
    simp only [frzO] at h
    by_cases e : o = j
    · subst e
      cases ha : among F o with
      | true =>
        simp only [ha] at h
        have := (look_frzO h).1
        rw [ha] at this; cases this
      | false =>
        simp only [ha] at h
        refine ⟨rfl, x, by simp [lookO], ?_⟩
        cases x with
        | box t cs => simp only [lookO, beqT, Option.some.injEq] at h; exact .inl ⟨t, cs, rfl, h.symm⟩
        | arr t sz n g => simp only [lookO, beqT, Option.some.injEq] at h; exact .inr (.inl ⟨t, sz, n, g, rfl, h.symm⟩)
        | mp P kt et n f => simp only [lookO, beqT, Option.some.injEq] at h; exact .inr (.inr ⟨P, kt, et, n, f, rfl, h.symm⟩)
    · simp only [lookO, beqF e]
      cases ha : among F j with
      | true => simp only [ha] at h; exact look_frzO h
      | false =>
        simp only [ha] at h
        cases x with
        | box t cs => simp only [lookO, beqF e] at h; exact look_frzO h
        | arr t sz n g => simp only [lookO, beqF e] at h; exact look_frzO h
        | mp P kt et n f => simp only [lookO, beqF e] at h; exact look_frzO h

section
variable {st : St} {m : Me} {tm : Array Value} {F : List Nat} {D : Nat → Prop}
mutual
theorem Rep.frz (hs : Sim st m tm) (hD : ∀ o ob k, among F o = true → lookO o st.objs = some ob → blkOf (m.b o) = some k → D k) : ∀ (x : LV) (y : Value), Rep m st.next x y → Rep (m.free D) st.next (x.frz F st.objs) y
  | .any, _, _ => trivial
  | .v _, _, h => h
  | .bs _, _, h => h
  | .ly _ _ _, _, h => ⟨h.1, h.2.1, fun k => h.2.2 k.1⟩
  | .str _, _, h => h
  | .sl sz n g, y, h => (closed (m := m) (m' := m.free D) rfl (fun k h => h.1) (.sl sz n g) y (Rep.down _ _ rfl h)).down _ _ rfl
  | .sp cs off, y, h => (closed (m := m) (m' := m.free D) rfl (fun k h => h.1) (.sp cs off) y (Rep.down _ _ rfl h)).down _ _ rfl
  | .agg cs, y, h => by
    obtain ⟨ys, rfl, h1, h2⟩ := h
    exact ⟨ys, rfl, RepL.frz hs hD cs ys h1, h2⟩
  | .tup cs, y, h => by
    obtain ⟨ys, rfl, h1⟩ := h
    exact ⟨ys, rfl, RepL.frz hs hD cs ys h1⟩
  | .lp _ _, y, h => h
  | .el _ _ _ _, y, h => h
  | .as _ _ _, y, h => h
  | .mp _, y, h => h
  | .clo _ a b, y, h => by
    obtain ⟨fs, cs, rfl, h1, h2⟩ := h
    exact ⟨fs, cs, rfl, RepL.frz hs hD a fs h1, RepL.frz hs hD b cs h2⟩
  | .ls o n, y, h => by
    simp only [LV.frz]
    cases ha : among F o with
    | false => exact h
    | true =>
      simp only []
      split
      · rename_i ty sz n' g ho
        obtain ⟨h1, rfl, A, c, h2, h3⟩ := h
        obtain ⟨_, ⟨xs, h4, h5, h6⟩, h7⟩ := hs.obj o _ ho
        have hDo := fun k => hD o _ k ha ho
        rw [h2] at h4 ⊢
        rcases h4.2 with ⟨e1, e2⟩ | ⟨gg, cap, cur, e1, _, e3, e4, e5, e6, e7⟩
        · injection e1 with e1 e8 e9
          subst e1; subst e8; subst e9
          exact ⟨none, 0, rfl, Nat.le_refl _, by omega, fun _ => ⟨rfl, rfl⟩, fun h => absurd h (by omega)⟩
        · injection e1 with e1 e8 e9
          subst e1; subst e8; subst e9
          refine ⟨_, c, rfl, e4, by unfold maxLen at e5; omega, (by intro h; cases h), fun h0 => ⟨gg, 0, rfl, fun hv => hv.2 (hDo gg (by rw [h2]; rfl)), (h7 gg (by rw [h2]; rfl)).2, fun i hi => ?_⟩⟩
          obtain ⟨ys, h8, h9, h10⟩ := h6 i hi
          refine ⟨ys, closedL (m := m) (m' := m.free D) rfl (fun k h => h.1) (g i) ys h8, h9, ?_⟩
          rw [Nat.zero_add]
          exact cellsAt_own e3 e7 h5 hi h10
      · trivial
theorem RepL.frz (hs : Sim st m tm) (hD : ∀ o ob k, among F o = true → lookO o st.objs = some ob → blkOf (m.b o) = some k → D k) : ∀ (xs : List LV) (ys : List Value), RepL m st.next xs ys → RepL (m.free D) st.next (frzL F st.objs xs) ys
  | [], _, h => h
  | x :: xs, ys, h => by
    obtain ⟨y, r, rfl, h1, h2⟩ := h
    exact ⟨y, r, rfl, Rep.frz hs hD x y h1, RepL.frz hs hD xs r h2⟩
end
end

/-- a call, the own slices F being written no more from here on -/
theorem CallA.frz {P : Program} {f : FuncId} {args : List LV} {k : LV → St → Prop} {kp : Value → St → Prop} {st : St} (F : List Nat)
    (h : frcC (frzL F st.objs args) fun args' => frcS (st.frz F) fun st' => CallA P f args' k kp st') : CallA P f args k kp st := by
  rw [frcC_eq, frcS_eq] at h
  refine ⟨h.1, fun org m tm vs hO hargs => ?_⟩
  let D : Nat → Prop := fun k => ∃ o ob, among F o = true ∧ lookO o st.objs = some ob ∧ blkOf (m.b o) = some k
  have hD : ∀ o ob k, among F o = true → lookO o st.objs = some ob → blkOf (m.b o) = some k → D k := fun o ob k h1 h2 h3 => ⟨o, ob, h1, h2, h3⟩
  have hDw : ∀ k, D k → m.wr k := fun k ⟨o, ob, h1, h2, h3⟩ => ((hO.sim.obj o ob h2).2.2 k h3).1
  have hF : Fr m (m.free D) := Fr.free hDw
  have e := hO.sim.n
  have hO' : Ok org (st.frz F) (m.free D) tm := by
    cases st with
    | mk env objs next low =>
    refine ⟨⟨e, fun k hk => ?_, fun o ob ho => ?_, fun o o' ob ob' h1 h2 h3 k hk => ?_⟩, hO.fr.trans hF, hO.low⟩
    · show Rep _ next (look k (frzE F objs env)) _
      rw [look_frzE]
      exact Rep.frz hO.sim hD _ _ (hO.sim.env k hk)
    · obtain ⟨h1, ob0, h2, h3⟩ := look_frzO ho
      obtain ⟨q1, q2, q3⟩ := hO.sim.obj o ob0 h2
      refine ⟨q1, ?_, fun k hk => ⟨⟨(q3 k hk).1, fun ⟨o', ob', d1, d2, d3⟩ => ?_⟩, (q3 k hk).2⟩⟩
      · rcases h3 with ⟨t, cs, rfl, rfl⟩ | ⟨t, sz, n, g, rfl, rfl⟩ | ⟨P, kt, et, n, f, rfl, rfl⟩
        · obtain ⟨b, ys, e1, e2, e3, e4⟩ := q2
          exact ⟨b, ys, e1, e2, RepL.frz hO.sim hD cs ys e3, e4⟩
        · exact RepO.fr hF _ _ (Nat.le_of_eq e.symm) (Nat.le_refl _) q2 fun _ _ => rfl
        · exact RepO.fr hF _ _ (Nat.le_of_eq e.symm) (Nat.le_refl _) q2 fun _ _ => rfl
      · have hne : o ≠ o' := fun e => by subst e; rw [h1] at d1; cases d1
        exact hO.sim.apart o o' ob0 ob' h2 d2 hne k hk d3
    · obtain ⟨_, a, h4, _⟩ := look_frzO h1
      obtain ⟨_, b, h5, _⟩ := look_frzO h2
      exact hO.sim.apart o o' a b h4 h5 h3 k hk
  have := h.2 org (m.free D) tm vs hO' (by
    have := RepL.frz hO.sim hD args vs hargs
    cases st; exact this)
  exact this

end Go.Proofs.Aw
namespace Go.Proofs.Aw
open Go
/-- a call, in a state of which less is told -/
theorem CallA.le {P : Program} {f : FuncId} {args args' : List LV} {k : LV → St → Prop} {kp : Value → St → Prop} {st : St} (st0 : St) (hl : St.le st st0) (ha : leL args args') (hu : underL st0.next args' = true) (h : CallA P f args' k kp st0) : CallA P f args k kp st :=
  ⟨h.1, fun org m tm vs hO hargs => h.2 org (m.cut st0.next) tm vs (hO.le hl) (RepL.cut _ _ (RepL.down _ _ hu (RepL.le ha hargs)))⟩
end Go.Proofs.Aw
