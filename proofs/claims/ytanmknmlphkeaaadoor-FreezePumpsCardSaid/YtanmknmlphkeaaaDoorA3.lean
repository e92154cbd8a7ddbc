/- A PART OF THE PROOF: an abstract run of the loaded code over value trees, and the functions walked by it. No condition of its own. -/
import Derived.Test.YtanmknmlphkeaaaDoorA2
namespace Go.Proofs.Aw
open Go Go.RowKit

def ofConst : Value → LV
  | .string s => .str s.data.toList
  | v => .v v
def evO (st : St) : Operand → LV
  | .tmp t => look t st.env
  | .const v => ofConst v
  | .global g => .v (.pointer (some ⟨g, 0, none⟩))
  | .func f => .v (.func (.func f) #[] #[])

theorem Rep.ofConst (m : Me) (N : Nat) (v : Value) : Rep m N (ofConst v) v := by
  cases v <;> exact rfl

/-- what stands in a place that is no slot is not known -/
theorem Sim.slot {st : St} {m : Me} {tm : Array Value} (h : Sim st m tm) (t : Nat) (ht : t < tm.size) : Rep m st.next (look t st.env) (tm.getD t undef) := by
  rw [Array.getD_eq_getD_getElem?, Array.getElem?_eq_getElem ht]
  exact h.env t ht

/-- every slot that an operand names is one -/
def okO (sz : Nat) : Operand → Bool
  | .tmp t => Nat.blt t sz
  | _ => true

theorem Sim.ev {st : St} {m : Me} {tm : Array Value} {ds : List Deferred} (h : Sim st m tm) (x : Operand) (hx : okO tm.size x = true) : Rep m st.next (evO st x) (Act.eval ⟨tm, ds⟩ x) := by
  cases x with
  | tmp t => exact h.slot t (by simpa [okO, Nat.blt_eq] using hx)
  | const v => exact Rep.ofConst m _ v
  | global g => exact rfl
  | func f => exact rfl

theorem Sim.put {st : St} {m : Me} {tm : Array Value} (h : Sim st m tm) (d : Option Nat) {x : LV} {y : Value} (hr : Rep m st.next x y) (ds : List Deferred) : Sim (st.put d x) m ((⟨tm, ds⟩ : Act).put d y).tmps := by
  cases d with
  | none => exact h
  | some d =>
    refine ⟨h.n, fun k hk => ?_, h.obj, h.apart⟩
    simp only [Act.put, Array.size_setIfInBounds] at hk
    simp only [St.put, look, Act.put]
    by_cases e : k = d
    · subst e; rw [beqT]; simp [hr]
    · rw [beqF e]
      rw [Array.getElem_setIfInBounds (by simpa using hk), if_neg (fun h => e h.symm)]
      exact h.env k (by simpa using hk)

theorem Ok.put {org : Me} {st : St} {m : Me} {tm : Array Value} (h : Ok org st m tm) (d : Option Nat) {x : LV} {y : Value} (hr : Rep m st.next x y) (ds : List Deferred) : Ok org (st.put d x) m ((⟨tm, ds⟩ : Act).put d y).tmps :=
  ⟨h.sim.put d hr ds, h.fr, by cases d <;> exact h.low⟩

/-! ### a world that has gone on -/
/-- the own objects as they were, in a later world that left them alone -/
theorem RepO.fr {m m' : Me} (h : Fr m m') (N N' : Nat) (hN : N ≤ m.n) (hN' : N ≤ N') {ob : LO} {y : Value} (hr : RepO m N ob y) (hk : ∀ k, blkOf y = some k → m'.w.heap[k]? = m.w.heap[k]?) : RepO m' N' ob y := by
  cases ob with
  | box ty cs =>
    obtain ⟨b, ys, rfl, h1, h2, h3⟩ := hr
    exact ⟨b, ys, rfl, (hk b rfl).trans h1, RepL.fr h N N' hN hN' cs ys h2, h3⟩
  | arr ty sz n g =>
    obtain ⟨xs, h1, h2, h3⟩ := hr
    refine ⟨xs, ⟨h1.1, ?_⟩, h2, fun i hi => ?_⟩
    · rcases h1.2 with h4 | ⟨gg, cap, cur, rfl, h5, h6, h7⟩
      · exact .inl h4
      · exact .inr ⟨gg, cap, cur, rfl, h5, (hk gg rfl).trans h6, h7⟩
    · obtain ⟨ys, h4, h5, h6⟩ := h3 i hi
      exact ⟨ys, RepL.fr h 0 0 (Nat.zero_le _) (Nat.le_refl _) (g i) ys h4, h5, h6⟩

/-- the frame and the objects in a later world that left the objects' blocks alone -/
theorem Ok.later {org : Me} {st : St} {m m' : Me} {tm : Array Value} (h : Ok org st m tm) (hf : Fr m m') (hn : m'.n = m.n) (hk : ∀ k, m.wr k → k < m.w.heap.size → m'.w.heap[k]? = m.w.heap[k]?) (hw : ∀ k, m.wr k → m'.wr k) : Ok org st m' tm := by
  have e := h.sim.n
  refine ⟨⟨hn.trans e, fun k hkk => Rep.fr hf _ _ (by omega) (Nat.le_refl _) _ _ (h.sim.env k hkk), fun o ob ho => ?_, fun o o' ob ob' h1 h2 h3 k hk1 => ?_⟩, h.fr.trans hf, h.low⟩
  · obtain ⟨h1, h2, h3⟩ := h.sim.obj o ob ho
    have hb := hf.b o (by omega)
    rw [hb]
    exact ⟨h1, RepO.fr hf _ _ (by omega) (Nat.le_refl _) h2 fun k hk1 => hk k (h3 k hk1).1 (h3 k hk1).2, fun k hk1 => ⟨hw k (h3 k hk1).1, Nat.lt_of_lt_of_le (h3 k hk1).2 hf.size⟩⟩
  · have l1 := (h.sim.obj o ob h1).1
    have l2 := (h.sim.obj o' ob' h2).1
    rw [hf.b o (by omega)] at hk1
    rw [hf.b o' (by omega)]
    exact h.sim.apart o o' ob ob' h1 h2 h3 k hk1

/-! ### less is known -/
def LV.le (x x' : LV) : Prop := ∀ m N y, Rep m N x y → Rep m N x' y
theorem LV.le.refl (x : LV) : LV.le x x := fun _ _ _ h => h
theorem LV.le.any (x : LV) : LV.le x .any := fun _ _ _ _ => trivial
theorem LV.le.bs (b : Bool) : LV.le (.v (.bool b)) (.bs b) := fun _ _ _ h => h
theorem LV.le.int {k : IntKind} {a b : Int} (h : a = b) : LV.le (.v (.int k a)) (.v (.int k b)) := by subst h; exact LV.le.refl _
theorem LV.le.eq {a b : LV} (h : a = b) : LV.le a b := by subst h; exact LV.le.refl _
theorem LV.le.sl {sz n n' : Nat} {g g' : Nat → List LV} (hn : n = n') (h : ∀ i, i < n → g i = g' i) : LV.le (.sl sz n g) (.sl sz n' g') := by
  subst hn
  intro m N y hr
  obtain ⟨A, cap, rfl, h1, h2, h3, h4⟩ := hr
  refine ⟨A, cap, rfl, h1, h2, h3, fun h0 => ?_⟩
  obtain ⟨b, off, rfl, h5, h6, h7⟩ := h4 h0
  refine ⟨b, off, rfl, h5, h6, fun i hi => ?_⟩
  rw [← h i hi]
  exact h7 i hi

def leL : List LV → List LV → Prop
  | [], l => l = []
  | x :: xs, l => ∃ x' xs', l = x' :: xs' ∧ LV.le x x' ∧ leL xs xs'
theorem RepL.le {m : Me} {N : Nat} : ∀ {xs xs' : List LV} {ys : List Value}, leL xs xs' → RepL m N xs ys → RepL m N xs' ys
  | [], _, _, h, hr => by rw [show _ = [] from h]; exact hr
  | x :: xs, _, ys, h, hr => by
    obtain ⟨x', xs', rfl, h1, h2⟩ := h
    obtain ⟨y, r, rfl, h3, h4⟩ := hr
    exact ⟨y, r, rfl, h1 _ _ _ h3, RepL.le h2 h4⟩
theorem leL.refl : ∀ l, leL l l
  | [] => rfl
  | x :: xs => ⟨x, xs, rfl, LV.le.refl x, leL.refl xs⟩
theorem LV.le.agg {cs cs' : List LV} (h : leL cs cs') : LV.le (.agg cs) (.agg cs') := by
  intro m N y hr
  obtain ⟨ys, rfl, h1, h2⟩ := hr
  exact ⟨ys, rfl, RepL.le h h1, h2⟩
theorem LV.le.tup {cs cs' : List LV} (h : leL cs cs') : LV.le (.tup cs) (.tup cs') := by
  intro m N y hr
  obtain ⟨ys, rfl, h1⟩ := hr
  exact ⟨ys, rfl, RepL.le h h1⟩

def LO.le (a b : LO) : Prop := ∀ m N y, RepO m N a y → RepO m N b y
theorem LO.le.refl (a : LO) : LO.le a a := fun _ _ _ h => h
theorem LO.le.box {ty : TypeId} {cs cs' : List LV} (h : leL cs cs') : LO.le (.box ty cs) (.box ty cs') := by
  intro m N y hr
  obtain ⟨b, ys, rfl, h1, h2, h3⟩ := hr
  exact ⟨b, ys, rfl, h1, RepL.le h h2, h3⟩
theorem LO.le.arr {ty sz n n' : Nat} {g g' : Nat → List LV} (hn : n = n') (h : ∀ i, i < n → g i = g' i) : LO.le (.arr ty sz n g) (.arr ty sz n' g') := by
  subst hn
  intro m N y hr
  obtain ⟨xs, h1, h2, h3⟩ := hr
  exact ⟨xs, h1, h2, fun i hi => by rw [← h i hi]; exact h3 i hi⟩

mutual
/-- all objects that it names have numbers below N -/
def LV.under (N : Nat) : LV → Bool
  | .agg cs => underL N cs
  | .tup cs => underL N cs
  | .lp o _ => Nat.blt o N
  | .el o _ _ _ => Nat.blt o N
  | .ls o _ => Nat.blt o N
  | .clo _ a b => underL N a && underL N b
  | _ => true
def underL (N : Nat) : List LV → Bool
  | [] => true
  | x :: xs => LV.under N x && underL N xs
end

mutual
theorem Rep.down {m : Me} {N N' : Nat} : ∀ (x : LV) (y : Value), x.under N' = true → Rep m N x y → Rep m N' x y
  | .any, _, _, _ => trivial
  | .v _, _, _, h => h
  | .bs _, _, _, h => h
  | .str _, _, _, h => h
  | .sl _ _ _, _, _, h => h
  | .sp _ _, _, _, h => h
  | .agg cs, y, hu, h => by
    obtain ⟨ys, rfl, h1, h2⟩ := h
    exact ⟨ys, rfl, RepL.down cs ys (by simpa [LV.under] using hu) h1, h2⟩
  | .tup cs, y, hu, h => by
    obtain ⟨ys, rfl, h1⟩ := h
    exact ⟨ys, rfl, RepL.down cs ys (by simpa [LV.under] using hu) h1⟩
  | .lp o _, y, hu, h => ⟨by simpa [LV.under, Nat.blt_eq] using hu, h.2⟩
  | .el o _ _ _, y, hu, h => ⟨by simpa [LV.under, Nat.blt_eq] using hu, h.2⟩
  | .ls o _, y, hu, h => ⟨by simpa [LV.under, Nat.blt_eq] using hu, h.2⟩
  | .clo _ a b, y, hu, h => by
    obtain ⟨fs, cs, rfl, h1, h2⟩ := h
    simp only [LV.under, Bool.and_eq_true] at hu
    exact ⟨fs, cs, rfl, RepL.down a fs hu.1 h1, RepL.down b cs hu.2 h2⟩
theorem RepL.down {m : Me} {N N' : Nat} : ∀ (xs : List LV) (ys : List Value), underL N' xs = true → RepL m N xs ys → RepL m N' xs ys
  | [], _, _, h => h
  | x :: xs, ys, hu, h => by
    obtain ⟨y, r, rfl, h1, h2⟩ := h
    simp only [underL, Bool.and_eq_true] at hu
    exact ⟨y, r, rfl, Rep.down x y hu.1 h1, RepL.down xs r hu.2 h2⟩
end

def LO.under (N : Nat) : LO → Bool
  | .box _ cs => underL N cs
  | .arr .. => true

/-- st' tells what st tells, or less -/
def leE (st : St) (N : Nat) : List (Nat × LV) → Prop
  | [] => True
  | (k, x) :: r => LV.le (look k st.env) x ∧ LV.under N x = true ∧ leE st N r
def leO (st : St) (N : Nat) : List (Nat × LO) → Prop
  | [] => True
  | (o, ob) :: r => (∃ ob0, lookO o st.objs = some ob0 ∧ LO.le ob0 ob) ∧ Nat.blt o N = true ∧ LO.under N ob = true ∧ leO st N r
structure St.le (st st' : St) : Prop where
  low : st'.low = st.low
  next : Nat.ble st'.low st'.next = true ∧ st'.next ≤ st.next
  env : leE st st'.next st'.env
  objs : leO st st'.next st'.objs

theorem leE.look {st : St} {N : Nat} : ∀ {e : List (Nat × LV)}, leE st N e → ∀ k, LV.le (look k st.env) (look k e) ∧ LV.under N (look k e) = true
  | [], _, k => ⟨LV.le.any _, rfl⟩
  | (j, x) :: r, h, k => by
    obtain ⟨h1, h2, h3⟩ := h
    by_cases e : k = j
    · subst e; simp only [Aw.look, beqT]; exact ⟨h1, h2⟩
    · simp only [Aw.look, beqF e]; exact leE.look h3 k

theorem leO.look {st : St} {N : Nat} : ∀ {e : List (Nat × LO)}, leO st N e → ∀ o ob, lookO o e = some ob → (∃ ob0, lookO o st.objs = some ob0 ∧ LO.le ob0 ob) ∧ o < N ∧ LO.under N ob = true
  | [], _, o, ob, h => by simp [lookO] at h
  | (j, x) :: r, h, o, ob, ho => by
    obtain ⟨h1, h2, h3, h4⟩ := h
    by_cases e : o = j
    · subst e; simp only [lookO, beqT, Option.some.injEq] at ho; subst ho; exact ⟨h1, by simpa [Nat.blt_eq] using h2, h3⟩
    · simp only [lookO, beqF e] at ho; exact leO.look h4 o ob ho

theorem RepO.down {m : Me} {N N' : Nat} {ob : LO} {y : Value} (hu : ob.under N' = true) (h : RepO m N ob y) : RepO m N' ob y := by
  cases ob with
  | box ty cs =>
    obtain ⟨b, ys, rfl, h1, h2, h3⟩ := h
    exact ⟨b, ys, rfl, h1, RepL.down cs ys hu h2, h3⟩
  | arr ty sz n g => exact h

/-- the same memory, fewer objects told of -/
def Me.cut (m : Me) (N : Nat) : Me := { m with n := N }

mutual
theorem Rep.cut {m : Me} {M N : Nat} : ∀ (x : LV) (y : Value), Rep m N x y → Rep (m.cut M) N x y
  | .any, _, _ => trivial
  | .v _, _, h => h
  | .bs _, _, h => h
  | .str _, _, h => h
  | .sl sz n g, y, h => by
    obtain ⟨A, cap, rfl, h1, h2, h3, h4⟩ := h
    refine ⟨A, cap, rfl, h1, h2, h3, fun h0 => ?_⟩
    obtain ⟨b, off, rfl, h5, h6, h7⟩ := h4 h0
    refine ⟨b, off, rfl, h5, h6, fun i hi => ?_⟩
    obtain ⟨ys, h8, h9⟩ := h7 i hi
    exact ⟨ys, RepL.cut (g i) ys h8, h9⟩
  | .sp cs off, y, h => by
    obtain ⟨b, o, ys, rfl, h1, h2, h3, h4⟩ := h
    exact ⟨b, o, ys, rfl, h1, h2, RepL.cut cs ys h3, h4⟩
  | .agg cs, y, h => by
    obtain ⟨ys, rfl, h1, h2⟩ := h
    exact ⟨ys, rfl, RepL.cut cs ys h1, h2⟩
  | .tup cs, y, h => by
    obtain ⟨ys, rfl, h1⟩ := h
    exact ⟨ys, rfl, RepL.cut cs ys h1⟩
  | .lp o _, y, h => h
  | .el o _ _ _, y, h => h
  | .ls o _, y, h => h
  | .clo _ a b, y, h => by
    obtain ⟨fs, cs, rfl, h1, h2⟩ := h
    exact ⟨fs, cs, rfl, RepL.cut a fs h1, RepL.cut b cs h2⟩
theorem RepL.cut {m : Me} {M N : Nat} : ∀ (xs : List LV) (ys : List Value), RepL m N xs ys → RepL (m.cut M) N xs ys
  | [], _, h => h
  | x :: xs, ys, h => by
    obtain ⟨y, r, rfl, h1, h2⟩ := h
    exact ⟨y, r, rfl, Rep.cut x y h1, RepL.cut xs r h2⟩
end
theorem RepO.cut {m : Me} {M N : Nat} {ob : LO} {y : Value} (h : RepO m N ob y) : RepO (m.cut M) N ob y := by
  cases ob with
  | box ty cs =>
    obtain ⟨b, ys, rfl, h1, h2, h3⟩ := h
    exact ⟨b, ys, rfl, h1, RepL.cut cs ys h2, h3⟩
  | arr ty sz n g =>
    obtain ⟨xs, h1, h2, h3⟩ := h
    refine ⟨xs, h1, h2, fun i hi => ?_⟩
    obtain ⟨ys, h4, h5⟩ := h3 i hi
    exact ⟨ys, RepL.cut (g i) ys h4, h5⟩

theorem Ok.le {org : Me} {st st' : St} {m : Me} {tm : Array Value} (h : Ok org st m tm) (hl : St.le st st') : Ok org st' (m.cut st'.next) tm := by
  have e := h.sim.n
  have e2 := h.low
  have h3 := hl.next.1
  have h4 := hl.low
  rw [Nat.ble_eq] at h3
  refine ⟨⟨rfl, fun k hk => ?_, fun o ob ho => ?_, fun o o' ob ob' h1 h2 h3 k hk1 => ?_⟩, ?_, hl.low.trans h.low⟩
  · obtain ⟨h1, h2⟩ := hl.env.look k
    exact Rep.cut _ _ (Rep.down _ _ h2 (h1 _ _ _ (h.sim.env k hk)))
  · obtain ⟨⟨ob0, h1, h2⟩, h3, h4⟩ := hl.objs.look o ob ho
    obtain ⟨h5, h6, h7⟩ := h.sim.obj o ob0 h1
    exact ⟨h3, RepO.cut (RepO.down h4 (h2 _ _ _ h6)), h7⟩
  · obtain ⟨⟨a, ha, _⟩, _⟩ := hl.objs.look o ob h1
    obtain ⟨⟨b, hb, _⟩, _⟩ := hl.objs.look o' ob' h2
    exact h.sim.apart o o' a b ha hb h3 k hk1
  · have f := h.fr
    exact ⟨f.os, f.tape, f.output, f.size, f.keep, f.wr, f.vo, f.vk, f.b, by show org.n ≤ st'.next; omega⟩

/-- st' may be told where st is told, of the same memory -/
def St.to (st st' : St) : Prop := ∀ org m tm, Ok org st m tm → ∃ m', m'.w = m.w ∧ Ok org st' m' tm
theorem St.to.le {st st' : St} (h : St.le st st') : St.to st st' := fun org m tm hO => ⟨m.cut st'.next, rfl, hO.le h⟩
theorem St.to.trans {a b c : St} (h : St.to a b) (k : St.to b c) : St.to a c := fun org m tm hO => by
  obtain ⟨m1, e1, h1⟩ := h org m tm hO
  obtain ⟨m2, e2, h2⟩ := k org m1 tm h1
  exact ⟨m2, e2.trans e1, h2⟩

theorem AW.le {P : Program} {org : Me} {ds : List Deferred} {sz : Nat} {c : Code} {K : AX → St → Prop} {st st' : St} (hl : St.le st st') (h : AW P org ds sz c K st') : AW P org ds sz c K st :=
  fun m tm h1 h2 => h (m.cut st'.next) tm h1 (h2.le hl)

/-- a loop, by a family of states; 'φ' tells which of them are met, 'μ' goes down with each round -/
theorem AW.loop {P : Program} {org : Me} {ds : List Deferred} {sz : Nat} {c : Code} {K : AX → St → Prop} {st : St} {ι : Type} (I : ι → St) (φ : ι → Prop) (μ : ι → Nat) (i0 : ι) (h0 : φ i0) (hl : St.to st (I i0))
    (hr : ∀ i, φ i → AW P org ds sz c (seqK K fun st' => ∃ j, φ j ∧ μ j < μ i ∧ St.to st' (I j)) (I i)) : AW P org ds sz (.loop c) K st := by
  intro m0 tm h1 h2
  obtain ⟨m, hm0, h2⟩ := hl org m0 tm h2
  rw [← hm0]
  refine wp_loop_ghost (fun n a w => a.defers = ds ∧ a.tmps.size = sz ∧ ∃ i m, φ i ∧ μ i = n ∧ m.w = w ∧ Ok org (I i) m a.tmps) (μ i0) ⟨rfl, h1, i0, _, h0, rfl, rfl, h2⟩ ?_
  rintro n ⟨tm', ds'⟩ w ⟨rfl, h3, i, m', h4, rfl, rfl, h5⟩
  refine Code.wp_mono ?_ (hr i h4 m' tm' h3 h5)
  rintro e ⟨tm2, ds2⟩ w2 ⟨rfl, h6, x, st2, m2, rfl, h7, rfl, h8⟩
  cases x with
  | normal =>
    obtain ⟨j, h9, h10, h11⟩ := h7
    obtain ⟨m3, e3, h12⟩ := h11 org m2 tm2 h8
    exact ⟨μ j, h10, rfl, h6, j, m3, h9, rfl, e3, h12⟩
  | exit id => exact ⟨rfl, h6, _, st2, m2, rfl, h7, rfl, h8⟩
  | ret => exact ⟨rfl, h6, _, st2, m2, rfl, h7, rfl, h8⟩
  | pan x => exact ⟨rfl, h6, _, st2, m2, rfl, h7, rfl, h8⟩

end Go.Proofs.Aw
