/- A PART OF THE PROOF: an abstract run of the loaded code over value trees, and the functions walked by it. No condition of its own. -/
import Derived.Test.YtanmknmlphkeaaaDoorA25
namespace Go.Proofs.Aw
open Go Go.RowKit

/-! ### own slices that are written no more -/
/-- is o one of these -/
def among (F : List Nat) (o : Nat) : Bool := match F with
  | [] => false
  | j :: r => match Nat.beq o j with
    | true => true
    | false => among r o
mutual
/-- the own slices of F as slices that stay -/
def LV.frz (F : List Nat) (objs : List (Nat × LO)) : LV → LV
  | .ls o n => match among F o with
    | true => match lookO o objs with
      | some (.arr _ sz _ g) => .sl sz n g
      | _ => .any
    | false => .ls o n
  | .agg cs => .agg (frzL F objs cs)
  | .tup cs => .tup (frzL F objs cs)
  | .clo fn a b => .clo fn (frzL F objs a) (frzL F objs b)
  | x => x
def frzL (F : List Nat) (objs : List (Nat × LO)) : List LV → List LV
  | [] => []
  | x :: xs => x.frz F objs :: frzL F objs xs
end
def frzE (F : List Nat) (objs : List (Nat × LO)) : List (Nat × LV) → List (Nat × LV)
  | [] => []
  | (k, x) :: r => (k, x.frz F objs) :: frzE F objs r
def frzO (F : List Nat) (objs : List (Nat × LO)) : List (Nat × LO) → List (Nat × LO)
  | [] => []
  | (o, x) :: r => match among F o with
    | true => frzO F objs r
    | false => match x with
      | .box t cs => (o, .box t (frzL F objs cs)) :: frzO F objs r
      | .arr t sz n g => (o, .arr t sz n g) :: frzO F objs r
def St.frz (F : List Nat) (st : St) : St := match st with
  | ⟨e, o, n, l⟩ => ⟨frzE F o e, frzO F o o, n, l⟩
theorem look_frzE {F : List Nat} {objs : List (Nat × LO)} {k : Nat} : ∀ e, look k (frzE F objs e) = (look k e).frz F objs
  | [] => by simp [frzE, look, LV.frz]
  | (j, x) :: r => by
    by_cases h : k = j
    · subst h; simp only [frzE, look, beqT]
    · simp only [frzE, look, beqF h]; exact look_frzE r
theorem look_frzO {F : List Nat} {objs : List (Nat × LO)} {o : Nat} {ob' : LO} : ∀ {l}, lookO o (frzO F objs l) = some ob' → among F o = false ∧ ∃ ob, lookO o l = some ob ∧ ((∃ t cs, ob = .box t cs ∧ ob' = .box t (frzL F objs cs)) ∨ (∃ t sz n g, ob = .arr t sz n g ∧ ob' = ob))
  | [], h => by simp [frzO, lookO] at h
  | (j, x) :: r, h => by
    simp only [frzO] at h
    by_cases e : o = j
    · subst e
      cases ha : among F o with
      | true =>
        simp only [ha] at h
        have := (look_frzO h).1
        rw [ha] at this; cases this
      | false =>
        simp only [ha] at h
        refine ⟨rfl, x, by simp [lookO], ?_⟩
        cases x with
        | box t cs => simp only [lookO, beqT, Option.some.injEq] at h; exact .inl ⟨t, cs, rfl, h.symm⟩
        | arr t sz n g => simp only [lookO, beqT, Option.some.injEq] at h; exact .inr ⟨t, sz, n, g, rfl, h.symm⟩
    · simp only [lookO, beqF e]
      cases ha : among F j with
      | true => simp only [ha] at h; exact look_frzO h
      | false =>
        simp only [ha] at h
        cases x with
        | box t cs => simp only [lookO, beqF e] at h; exact look_frzO h
        | arr t sz n g => simp only [lookO, beqF e] at h; exact look_frzO h

section
variable {st : St} {m : Me} {tm : Array Value} {F : List Nat} {D : Nat → Prop}
mutual
theorem Rep.frz (hs : Sim st m tm) (hD : ∀ o ob k, among F o = true → lookO o st.objs = some ob → blkOf (m.b o) = some k → D k) : ∀ (x : LV) (y : Value), Rep m st.next x y → Rep (m.free D) st.next (x.frz F st.objs) y
  | .any, _, _ => trivial
  | .v _, _, h => h
  | .bs _, _, h => h
  | .str _, _, h => h
  | .sl sz n g, y, h => (closed (m := m) (m' := m.free D) rfl (fun k h => h.1) (.sl sz n g) y (Rep.down _ _ rfl h)).down _ _ rfl
  | .sp cs off, y, h => (closed (m := m) (m' := m.free D) rfl (fun k h => h.1) (.sp cs off) y (Rep.down _ _ rfl h)).down _ _ rfl
  | .agg cs, y, h => by
    obtain ⟨ys, rfl, h1, h2⟩ := h
    exact ⟨ys, rfl, RepL.frz hs hD cs ys h1, h2⟩
  | .tup cs, y, h => by
    obtain ⟨ys, rfl, h1⟩ := h
    exact ⟨ys, rfl, RepL.frz hs hD cs ys h1⟩
  | .lp _ _, y, h => h
  | .el _ _ _ _, y, h => h
  | .clo _ a b, y, h => by
    obtain ⟨fs, cs, rfl, h1, h2⟩ := h
    exact ⟨fs, cs, rfl, RepL.frz hs hD a fs h1, RepL.frz hs hD b cs h2⟩
  | .ls o n, y, h => by
    simp only [LV.frz]
    cases ha : among F o with
    | false => exact h
    | true =>
      simp only []
      split
      · rename_i ty sz n' g ho
        obtain ⟨h1, rfl, A, c, h2, h3⟩ := h
        obtain ⟨_, ⟨xs, h4, h5, h6⟩, h7⟩ := hs.obj o _ ho
        have hDo := fun k => hD o _ k ha ho
        rw [h2] at h4 ⊢
        rcases h4.2 with ⟨e1, e2⟩ | ⟨gg, cap, cur, e1, _, e3, e4, e5, e6, e7⟩
        · injection e1 with e1 e8 e9
          subst e1; subst e8; subst e9
          exact ⟨none, 0, rfl, Nat.le_refl _, by omega, fun _ => ⟨rfl, rfl⟩, fun h => absurd h (by omega)⟩
        · injection e1 with e1 e8 e9
          subst e1; subst e8; subst e9
          refine ⟨_, c, rfl, e4, by unfold maxLen at e5; omega, (by intro h; cases h), fun h0 => ⟨gg, 0, rfl, fun hv => hv.2 (hDo gg (by rw [h2]; rfl)), (h7 gg (by rw [h2]; rfl)).2, fun i hi => ?_⟩⟩
          obtain ⟨ys, h8, h9, h10⟩ := h6 i hi
          refine ⟨ys, closedL (m := m) (m' := m.free D) rfl (fun k h => h.1) (g i) ys h8, h9, ?_⟩
          rw [Nat.zero_add]
          exact cellsAt_own e3 e7 h5 hi h10
      · trivial
theorem RepL.frz (hs : Sim st m tm) (hD : ∀ o ob k, among F o = true → lookO o st.objs = some ob → blkOf (m.b o) = some k → D k) : ∀ (xs : List LV) (ys : List Value), RepL m st.next xs ys → RepL (m.free D) st.next (frzL F st.objs xs) ys
  | [], _, h => h
  | x :: xs, ys, h => by
    obtain ⟨y, r, rfl, h1, h2⟩ := h
    exact ⟨y, r, rfl, Rep.frz hs hD x y h1, RepL.frz hs hD xs r h2⟩
end
end

/-- a call, the own slices F being written no more from here on -/
theorem CallA.frz {P : Program} {f : FuncId} {args : List LV} {k : LV → St → Prop} {kp : Value → St → Prop} {st : St} (F : List Nat)
    (h : frcC (frzL F st.objs args) fun args' => frcS (st.frz F) fun st' => CallA P f args' k kp st') : CallA P f args k kp st := by
  rw [frcC_eq, frcS_eq] at h
  refine ⟨h.1, fun org m tm vs hO hargs => ?_⟩
  let D : Nat → Prop := fun k => ∃ o ob, among F o = true ∧ lookO o st.objs = some ob ∧ blkOf (m.b o) = some k
  have hD : ∀ o ob k, among F o = true → lookO o st.objs = some ob → blkOf (m.b o) = some k → D k := fun o ob k h1 h2 h3 => ⟨o, ob, h1, h2, h3⟩
  have hDw : ∀ k, D k → m.wr k := fun k ⟨o, ob, h1, h2, h3⟩ => ((hO.sim.obj o ob h2).2.2 k h3).1
  have hF : Fr m (m.free D) := Fr.free hDw
  have e := hO.sim.n
  have hO' : Ok org (st.frz F) (m.free D) tm := by
    cases st with
    | mk env objs next low =>
    refine ⟨⟨e, fun k hk => ?_, fun o ob ho => ?_, fun o o' ob ob' h1 h2 h3 k hk => ?_⟩, hO.fr.trans hF, hO.low⟩
    · show Rep _ next (look k (frzE F objs env)) _
      rw [look_frzE]
      exact Rep.frz hO.sim hD _ _ (hO.sim.env k hk)
    · obtain ⟨h1, ob0, h2, h3⟩ := look_frzO ho
      obtain ⟨q1, q2, q3⟩ := hO.sim.obj o ob0 h2
      refine ⟨q1, ?_, fun k hk => ⟨⟨(q3 k hk).1, fun ⟨o', ob', d1, d2, d3⟩ => ?_⟩, (q3 k hk).2⟩⟩
      · rcases h3 with ⟨t, cs, rfl, rfl⟩ | ⟨t, sz, n, g, rfl, rfl⟩
        · obtain ⟨b, ys, e1, e2, e3, e4⟩ := q2
          exact ⟨b, ys, e1, e2, RepL.frz hO.sim hD cs ys e3, e4⟩
        · exact RepO.fr hF _ _ (Nat.le_of_eq e.symm) (Nat.le_refl _) q2 fun _ _ => rfl
      · have hne : o ≠ o' := fun e => by subst e; rw [h1] at d1; cases d1
        exact hO.sim.apart o o' ob0 ob' h2 d2 hne k hk d3
    · obtain ⟨_, a, h4, _⟩ := look_frzO h1
      obtain ⟨_, b, h5, _⟩ := look_frzO h2
      exact hO.sim.apart o o' a b h4 h5 h3 k hk
  have := h.2 org (m.free D) tm vs hO' (by
    have := RepL.frz hO.sim hD args vs hargs
    cases st; exact this)
  exact this

end Go.Proofs.Aw
namespace Go.Proofs.Aw
open Go
/-- a call, in a state of which less is told -/
theorem CallA.le {P : Program} {f : FuncId} {args args' : List LV} {k : LV → St → Prop} {kp : Value → St → Prop} {st : St} (st0 : St) (hl : St.le st st0) (ha : leL args args') (hu : underL st0.next args' = true) (h : CallA P f args' k kp st0) : CallA P f args k kp st :=
  ⟨h.1, fun org m tm vs hO hargs => h.2 org (m.cut st0.next) tm vs (hO.le hl) (RepL.cut _ _ (RepL.down _ _ hu (RepL.le ha hargs)))⟩
end Go.Proofs.Aw
