/- A PART OF THE PROOF: an abstract run of the loaded code over value trees, and the functions walked by it. No condition of its own. -/
import Derived.Test.YtanmknmlphkeaaaDoorA24
namespace Go.Proofs.Aw
open Go Go.RowKit

/-! ### the nil slice as a slice of the call's own -/
def LV.leW (o : Nat) (x x' : LV) : Prop := ∀ m N y, o < N → m.b o = .slice none 0 0 → Rep m N x y → Rep m N x' y
theorem LV.leW.of {o : Nat} {x x' : LV} (h : LV.le x x') : LV.leW o x x' := fun m N y _ _ hr => h m N y hr
theorem LV.leW.refl {o : Nat} (x : LV) : LV.leW o x x := fun m N y _ _ hr => hr
theorem LV.leW.nil {o : Nat} : LV.leW o (.v (.slice none 0 0)) (.ls o 0) := fun m N y h1 h2 hr => by
  have hr : y = .slice none 0 0 := hr
  subst hr
  exact ⟨h1, h2.symm, none, 0, h2, .inl ⟨rfl, rfl⟩⟩
def leLW (o : Nat) : List LV → List LV → Prop
  | [], l => l = []
  | x :: xs, l => ∃ x' xs', l = x' :: xs' ∧ LV.leW o x x' ∧ leLW o xs xs'
theorem RepL.leW {o : Nat} {m : Me} {N : Nat} (h1 : o < N) (h2 : m.b o = .slice none 0 0) : ∀ {xs xs' : List LV} {ys : List Value}, leLW o xs xs' → RepL m N xs ys → RepL m N xs' ys
  | [], _, _, h, hr => by rw [show _ = [] from h]; exact hr
  | x :: xs, _, ys, h, hr => by
    obtain ⟨x', xs', rfl, h3, h4⟩ := h
    obtain ⟨y, r, rfl, h5, h6⟩ := hr
    exact ⟨y, r, rfl, h3 _ _ _ h1 h2 h5, RepL.leW h1 h2 h4 h6⟩
def LO.leW (o : Nat) (a b : LO) : Prop := ∀ m N y, o < N → m.b o = .slice none 0 0 → RepO m N a y → RepO m N b y
theorem LO.leW.of {o : Nat} {a b : LO} (h : LO.le a b) : LO.leW o a b := fun m N y _ _ hr => h m N y hr
theorem LO.leW.refl {o : Nat} (a : LO) : LO.leW o a a := fun m N y _ _ hr => hr
theorem LO.leW.box {o : Nat} {ty : TypeId} {cs cs' : List LV} (h : leLW o cs cs') : LO.leW o (.box ty cs) (.box ty cs') := by
  intro m N y h1 h2 hr
  obtain ⟨b, ys, rfl, e1, e2, e3⟩ := hr
  exact ⟨b, ys, rfl, e1, RepL.leW h1 h2 h e2, e3⟩
def leEW (st : St) (o N : Nat) : List (Nat × LV) → Prop
  | [] => True
  | (k, x) :: r => LV.leW o (look k st.env) x ∧ LV.under N x = true ∧ leEW st o N r
def leOW (st : St) (o N : Nat) : List (Nat × LO) → Prop
  | [] => True
  | (j, ob) :: r => (∃ ob0, lookO j st.objs = some ob0 ∧ LO.leW o ob0 ob) ∧ Nat.blt j N = true ∧ LO.under N ob = true ∧ leOW st o N r
theorem leEW.look {st : St} {o N : Nat} : ∀ {e : List (Nat × LV)}, leEW st o N e → ∀ k, LV.leW o (look k st.env) (look k e) ∧ LV.under N (look k e) = true
  | [], _, k => ⟨.of (LV.le.any _), rfl⟩
  | (j, x) :: r, h, k => by
    obtain ⟨h1, h2, h3⟩ := h
    by_cases e : k = j
    · subst e; simp only [Aw.look, beqT]; exact ⟨h1, h2⟩
    · simp only [Aw.look, beqF e]; exact leEW.look h3 k
theorem leOW.look {st : St} {o N : Nat} : ∀ {e : List (Nat × LO)}, leOW st o N e → ∀ j ob, lookO j e = some ob → (∃ ob0, lookO j st.objs = some ob0 ∧ LO.leW o ob0 ob) ∧ j < N ∧ LO.under N ob = true
  | [], _, j, ob, h => by simp [lookO] at h
  | (i, x) :: r, h, j, ob, ho => by
    obtain ⟨h1, h2, h3, h4⟩ := h
    by_cases e : j = i
    · subst e; simp only [lookO, beqT, Option.some.injEq] at ho; subst ho; exact ⟨h1, by simpa [Nat.blt_eq] using h2, h3⟩
    · simp only [lookO, beqF e] at ho; exact leOW.look h4 j ob ho

/-- st with one more object, number 'st.next': an empty row, which the nil slice is -/
structure St.own (ty sz : Nat) (st st' : St) : Prop where
  low : st'.low = st.low
  next : st'.next = st.next + 1
  env : leEW st st.next st'.next st'.env
  objs : leOW (st.new (.arr ty sz 0 fun _ => [])) st.next st'.next st'.objs

theorem St.to.own {ty sz : Nat} {st st' : St} (h : St.own ty sz st st') : St.to st st' := by
  intro org m tm hO
  have e := hO.sim.n
  have hG := hO.grow m.w (.slice none 0 0) (.arr ty sz 0 fun _ => []) none st.objs (SameSys.refl _) (Nat.le_refl _) (fun k h => by simp [blkOf] at h) (fun _ _ _ => rfl) (fun o h => by cases h) (fun k ob' h => ⟨h, by simp⟩) (fun k h => by simp [blkOf] at h)
    ⟨[], own_nil0 _ _ _, by simp, fun i hi => absurd hi (by omega)⟩
  obtain ⟨h1, h2, h3⟩ := hG
  refine ⟨m.grow m.w (.slice none 0 0) (Nat.le_refl _) (fun k h => by simp [blkOf] at h), rfl, ⟨⟨?_, fun k hk => ?_, fun o ob ho => ?_, fun o o' ob ob' ha hb hne k hk => ?_⟩, h1.fr, h.low.trans hO.low⟩⟩
  · rw [h.next]; exact h1.sim.n
  · obtain ⟨q1, q2⟩ := h.env.look k
    rw [h.next] at q2 ⊢
    exact q1 _ _ _ (Nat.lt_succ_self _) h3 (h1.sim.env k hk)
  · obtain ⟨⟨ob0, q1, q2⟩, q3, q4⟩ := h.objs.look o ob ho
    have q1' : lookO o ((st.next, LO.arr ty sz 0 fun _ => []) :: st.objs) = some ob0 := by cases st; exact q1
    obtain ⟨r1, r2, r3⟩ := h1.sim.obj o ob0 q1'
    rw [h.next] at q3 q4 ⊢
    exact ⟨q3, q2 _ _ _ (Nat.lt_succ_self _) h3 r2, r3⟩
  · obtain ⟨⟨a, q1, _⟩, _⟩ := h.objs.look o ob ha
    obtain ⟨⟨b, q2, _⟩, _⟩ := h.objs.look o' ob' hb
    have q1' : lookO o ((st.next, LO.arr ty sz 0 fun _ => []) :: st.objs) = some a := by cases st; exact q1
    have q2' : lookO o' ((st.next, LO.arr ty sz 0 fun _ => []) :: st.objs) = some b := by cases st; exact q2
    exact h1.sim.apart o o' a b q1' q2' hne k hk

/-! ### objects under other numbers -/
def sw (a b o : Nat) : Nat := match Nat.beq o a with
  | true => b
  | false => o
mutual
def LV.sw (a b : Nat) : LV → LV
  | .agg cs => .agg (swL a b cs)
  | .tup cs => .tup (swL a b cs)
  | .lp o f => .lp (Aw.sw a b o) f
  | .el o s i f => .el (Aw.sw a b o) s i f
  | .ls o n => .ls (Aw.sw a b o) n
  | .clo fn x y => .clo fn (swL a b x) (swL a b y)
  | x => x
def swL (a b : Nat) : List LV → List LV
  | [] => []
  | x :: xs => x.sw a b :: swL a b xs
end
def Me.swap (m : Me) (a b N : Nat) : Me := { m with b := fun o => m.b (sw a b o), n := N }
mutual
theorem Rep.swap {m : Me} {a b M N : Nat} : ∀ (x : LV) (y : Value), x.under N = true → Rep m M (x.sw a b) y → Rep (m.swap a b N) N x y
  | .any, _, _, _ => trivial
  | .v _, _, _, h => h
  | .bs _, _, _, h => h
  | .str _, _, _, h => h
  | .sl sz n g, y, _, h => closed (m := m) (m' := m.swap a b N) rfl (fun k h => h) _ _ (Rep.down (.sl sz n g) y rfl h)
  | .sp cs off, y, _, h => closed (m := m) (m' := m.swap a b N) rfl (fun k h => h) _ _ (Rep.down (.sp cs off) y rfl h)
  | .agg cs, y, hu, h => by
    obtain ⟨ys, rfl, h1, h2⟩ := h
    exact ⟨ys, rfl, RepL.swap cs ys (by simpa [LV.under] using hu) h1, h2⟩
  | .tup cs, y, hu, h => by
    obtain ⟨ys, rfl, h1⟩ := h
    exact ⟨ys, rfl, RepL.swap cs ys (by simpa [LV.under] using hu) h1⟩
  | .lp o _, y, hu, h => ⟨by simpa [LV.under, Nat.blt_eq] using hu, h.2⟩
  | .el o _ _ _, y, hu, h => ⟨by simpa [LV.under, Nat.blt_eq] using hu, h.2⟩
  | .ls o _, y, hu, h => ⟨by simpa [LV.under, Nat.blt_eq] using hu, h.2⟩
  | .clo _ x z, y, hu, h => by
    obtain ⟨fs, cs, rfl, h1, h2⟩ := h
    simp only [LV.under, Bool.and_eq_true] at hu
    exact ⟨fs, cs, rfl, RepL.swap x fs hu.1 h1, RepL.swap z cs hu.2 h2⟩
theorem RepL.swap {m : Me} {a b M N : Nat} : ∀ (xs : List LV) (ys : List Value), underL N xs = true → RepL m M (swL a b xs) ys → RepL (m.swap a b N) N xs ys
  | [], _, _, h => h
  | x :: xs, ys, hu, h => by
    obtain ⟨y, r, rfl, h1, h2⟩ := h
    simp only [underL, Bool.and_eq_true] at hu
    exact ⟨y, r, rfl, Rep.swap x y hu.1 h1, RepL.swap xs r hu.2 h2⟩
end
def LO.sw (a b : Nat) : LO → LO
  | .box t cs => .box t (swL a b cs)
  | x => x
theorem RepO.swap {m : Me} {a b M N : Nat} {ob : LO} {y : Value} (hu : ob.under N = true) (h : RepO m M (ob.sw a b) y) : RepO (m.swap a b N) N ob y := by
  cases ob with
  | box t cs =>
    obtain ⟨k, ys, rfl, h1, h2, h3⟩ := h
    exact ⟨k, ys, rfl, h1, RepL.swap cs ys hu h2, h3⟩
  | arr t sz n g =>
    obtain ⟨xs, h1, h2, h3⟩ := h
    refine ⟨xs, h1, h2, fun i hi => ?_⟩
    obtain ⟨ys, e1, e2⟩ := h3 i hi
    exact ⟨ys, closedL (m := m) (m' := m.swap a b N) rfl (fun k h => h) _ _ e1, e2⟩
def leES (st : St) (a b N : Nat) : List (Nat × LV) → Prop
  | [] => True
  | (k, x) :: r => LV.le (look k st.env) (x.sw a b) ∧ LV.under N x = true ∧ leES st a b N r
def leOS (st : St) (a b N : Nat) : List (Nat × LO) → Prop
  | [] => True
  | (j, ob) :: r => (∃ ob0, lookO (sw a b j) st.objs = some ob0 ∧ LO.le ob0 (ob.sw a b)) ∧ Nat.blt j N = true ∧ LO.under N ob = true ∧ leOS st a b N r
theorem leES.look {st : St} {a b N : Nat} : ∀ {e : List (Nat × LV)}, leES st a b N e → ∀ k, LV.le (look k st.env) ((look k e).sw a b) ∧ LV.under N (look k e) = true
  | [], _, k => ⟨LV.le.any _, rfl⟩
  | (j, x) :: r, h, k => by
    obtain ⟨h1, h2, h3⟩ := h
    by_cases e : k = j
    · subst e; simp only [Aw.look, beqT]; exact ⟨h1, h2⟩
    · simp only [Aw.look, beqF e]; exact leES.look h3 k
theorem leOS.look {st : St} {a b N : Nat} : ∀ {e : List (Nat × LO)}, leOS st a b N e → ∀ j ob, lookO j e = some ob → (∃ ob0, lookO (Aw.sw a b j) st.objs = some ob0 ∧ LO.le ob0 (ob.sw a b)) ∧ j < N ∧ LO.under N ob = true
  | [], _, j, ob, h => by simp [lookO] at h
  | (i, x) :: r, h, j, ob, ho => by
    obtain ⟨h1, h2, h3, h4⟩ := h
    by_cases e : j = i
    · subst e; simp only [lookO, beqT, Option.some.injEq] at ho; subst ho; exact ⟨h1, by simpa [Nat.blt_eq] using h2, h3⟩
    · simp only [lookO, beqF e] at ho; exact leOS.look h4 j ob ho

/-- what is object b in st is object a in st' -/
structure St.ren (a b : Nat) (st st' : St) : Prop where
  low : st'.low = st.low
  nums : Nat.ble st'.low a = true ∧ Nat.ble st'.next b = true ∧ Nat.ble st'.low st'.next = true ∧ st'.next ≤ st.next
  env : leES st a b st'.next st'.env
  objs : leOS st a b st'.next st'.objs
theorem sw_inj {a b o o' N : Nat} (hb : N ≤ b) (h1 : o < N) (h2 : o' < N) (h : sw a b o = sw a b o') : o = o' := by
  unfold sw at h
  by_cases e : o = a
  · subst e
    by_cases e' : o' = o
    · exact e'.symm
    · simp only [beqT, beqF e'] at h; omega
  · by_cases e' : o' = a
    · subst e'; simp only [beqT, beqF e] at h; omega
    · simp only [beqF e, beqF e'] at h; exact h
theorem St.to.ren {a b : Nat} {st st' : St} (h : St.ren a b st st') : St.to st st' := by
  intro org m tm hO
  obtain ⟨n1, n2, n3, n4⟩ := h.nums
  rw [Nat.ble_eq] at n1 n2 n3
  have hl := h.low
  have hl2 := hO.low
  have f := hO.fr
  refine ⟨m.swap a b st'.next, rfl, ⟨⟨rfl, fun k hk => ?_, fun o ob ho => ?_, fun o o' ob ob' ha hb hne k hk => ?_⟩, ⟨f.os, f.tape, f.output, f.size, f.keep, f.wr, f.vo, f.vk, fun o ho => ?_, by show org.n ≤ st'.next; omega⟩, h.low.trans hO.low⟩⟩
  · obtain ⟨q1, q2⟩ := h.env.look k
    exact Rep.swap _ _ q2 (q1 _ _ _ (hO.sim.env k hk))
  · obtain ⟨⟨ob0, q1, q2⟩, q3, q4⟩ := h.objs.look o ob ho
    obtain ⟨r1, r2, r3⟩ := hO.sim.obj _ ob0 q1
    exact ⟨q3, RepO.swap q4 (q2 _ _ _ r2), r3⟩
  · obtain ⟨⟨x, q1, _⟩, q3, _⟩ := h.objs.look o ob ha
    obtain ⟨⟨z, q2, _⟩, q4, _⟩ := h.objs.look o' ob' hb
    exact hO.sim.apart _ _ x z q1 q2 (fun e => hne (sw_inj n2 q3 q4 e)) k hk
  · show m.b (sw a b o) = org.b o
    have : sw a b o = o := by unfold sw; rw [beqF (by omega)]
    rw [this]
    exact f.b o ho

/-- the nil slice, as a slice that stays -/
theorem LV.le.nil {sz : Nat} {g : Nat → List LV} : LV.le (.v (.slice none 0 0)) (.sl sz 0 g) := fun m N y h => by
  have h : y = .slice none 0 0 := h
  subst h
  exact ⟨none, 0, rfl, Nat.le_refl _, by omega, fun _ => ⟨rfl, rfl⟩, fun h => absurd h (by omega)⟩

end Go.Proofs.Aw
