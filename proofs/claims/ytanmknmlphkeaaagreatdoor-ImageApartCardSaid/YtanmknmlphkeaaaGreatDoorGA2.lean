/- A PART OF THE PROOF: an abstract run of the loaded code over value trees, and the functions walked by it. No condition of its own. -/
import Derived.Test.YtanmknmlphkeaaaGreatDoorA1
import Derived.Deep.LoopGhost
import Derived.Maps.Own
import Derived.Maps.Views
namespace Go.Proofs.Aw
open Go Go.RowKit

/-! ### states -/
inductive LO where
  | box (ty : TypeId) (cs : List LV)
  | arr (ty sz n : Nat) (g : Nat → List LV)
  | mp (P : Program) (kt et n : Nat) (f : Int → Bool)

structure St where
  env : List (Nat × LV)
  objs : List (Nat × LO)
  next : Nat
  low : Nat

def look (k : Nat) : List (Nat × LV) → LV
  | [] => .any
  | (j, x) :: r => match Nat.beq k j with
    | true => x
    | false => look k r
def lookO (k : Nat) : List (Nat × LO) → Option LO
  | [] => none
  | (j, x) :: r => match Nat.beq k j with
    | true => some x
    | false => lookO k r

def St.put (st : St) (d : Option Nat) (x : LV) : St := match d with
  | some d => match st with
    | ⟨e, o, n, l⟩ => ⟨(d, x) :: e, o, n, l⟩
  | none => st
def St.new (st : St) (ob : LO) : St := match st with
  | ⟨e, o, n, l⟩ => ⟨e, (n, ob) :: o, n + 1, l⟩
def St.setO (st : St) (o : Nat) (ob : LO) : St := match st with
  | ⟨e, os, n, l⟩ => ⟨e, (o, ob) :: os, n, l⟩
/-- what is reckoned, reckoned at once -/
def frcS (st : St) (k : St → Prop) : Prop := match st with
  | ⟨e, o, n, l⟩ => k ⟨e, o, n, l⟩
def frc (x : LV) (k : LV → Prop) : Prop := match x with
  | .any => k .any
  | .v x => k (.v x)
  | .bs b => k (.bs b)
  | .str l => k (.str l)
  | .agg cs => k (.agg cs)
  | .tup cs => k (.tup cs)
  | .sl sz n g => k (.sl sz n g)
  | .sp cs off => k (.sp cs off)
  | .lp o off => k (.lp o off)
  | .el o sz i off => k (.el o sz i off)
  | .ls o n => k (.ls o n)
  | .as o off n => k (.as o off n)
  | .mp o => k (.mp o)
  | .ly g o x => k (.ly g o x)
  | .clo f a b => k (.clo f a b)
def frcC : List LV → (List LV → Prop) → Prop
  | [], k => k []
  | x :: r, k => frc x fun x => frcC r fun r => k (x :: r)
theorem frcS_eq (st : St) (k : St → Prop) : frcS st k = k st := rfl
theorem frc_eq (x : LV) (k : LV → Prop) : frc x k = k x := by cases x <;> rfl

theorem frcC_eq : ∀ (l : List LV) (k : List LV → Prop), frcC l k = k l
  | [], k => rfl
  | x :: r, k => by simp only [frcC, frc_eq]; rw [frcC_eq r]

theorem beqT (i : Nat) : Nat.beq i i = true := Nat.beq_refl i
theorem beqF {i j : Nat} (h : i ≠ j) : Nat.beq i j = false := by
  cases e : Nat.beq i j with
  | true => exact absurd (Nat.eq_of_beq_eq_true e) h
  | false => rfl

def blkOf : Value → Option Nat
  | .pointer (some a) => some a.block
  | .slice (some a) _ _ => some a.block
  | .map (some b) => some b
  | _ => none

def RepO (m : Me) (N : Nat) : LO → Value → Prop
  | .box ty cs, y => ∃ b ys, y = .pointer (some ⟨b, 0, none⟩) ∧ m.w.heap[b]? = some (.cells ys.toArray ty (0, 0)) ∧ RepL m N cs ys ∧ ∀ u ∈ ys, u.oneCell' = true
  | .arr ty sz n g, y => ∃ xs, m.w.ownsRow 0 ty sz y n xs ∧ (∀ u ∈ xs, u.oneCell' = true) ∧ ∀ i, i < n → ∃ ys, RepL m 0 (g i) ys ∧ ys.length = sz ∧ (xs.drop (i * sz)).take sz = ys
  | .mp P kt et n f, y => ∃ b D, y = .map (some b) ∧ P.underlying kt = some (.int .i64) ∧ P.underlying et = some .bool ∧ World.ownsMap (H := Unit) m.w P kt (plainElem P et) b n D ∧ Maps.IsMap D ∧
      ∀ x, (Lit.int .i64 x).wf = true → D.atKey (.int .i64 x) (.lit (.bool false)) = .lit (.bool (f x))

structure Sim (st : St) (m : Me) (tm : Array Value) : Prop where
  n : m.n = st.next
  env : ∀ k (h : k < tm.size), Rep m st.next (look k st.env) tm[k]
  obj : ∀ o ob, lookO o st.objs = some ob → o < st.next ∧ RepO m st.next ob (m.b o) ∧ ∀ k, blkOf (m.b o) = some k → m.wr k ∧ k < m.w.heap.size
  apart : ∀ o o' ob ob', lookO o st.objs = some ob → lookO o' st.objs = some ob' → o ≠ o' → ∀ k, blkOf (m.b o) = some k → blkOf (m.b o') ≠ some k

structure Ok (org : Me) (st : St) (m : Me) (tm : Array Value) : Prop where
  sim : Sim st m tm
  fr : Fr org m
  low : st.low = org.n

inductive AX where
  | normal
  | exit (id : Nat)
  | ret
  | pan (x : Value)

def AX.to : AX → Exit
  | .normal => .normal
  | .exit id => .exit id
  | .ret => .ret
  | .pan x => .panic [{ v := x, recovered := false }]

/-- what stands behind a piece of code -/
def Post (org : Me) (ds : List Deferred) (sz : Nat) (K : AX → St → Prop) (e : Exit) (a : Act) (w : World) : Prop :=
  a.defers = ds ∧ a.tmps.size = sz ∧ ∃ x st m, e = AX.to x ∧ K x st ∧ m.w = w ∧ Ok org st m a.tmps

def AW (P : Program) (org : Me) (ds : List Deferred) (sz : Nat) (c : Code) (K : AX → St → Prop) (st : St) : Prop :=
  ∀ m tm, tm.size = sz → Ok org st m tm → c.wp P (Post org ds sz K) ⟨tm, ds⟩ m.w

theorem Post.mono {org : Me} {ds : List Deferred} {sz : Nat} {K K' : AX → St → Prop} (h : ∀ x st, K x st → K' x st) {e : Exit} {a : Act} {w : World} (hp : Post org ds sz K e a w) : Post org ds sz K' e a w := by
  obtain ⟨h1, h2, x, st, m, h3, h4, h5⟩ := hp
  exact ⟨h1, h2, x, st, m, h3, h _ _ h4, h5⟩

theorem AW.mono {P : Program} {org : Me} {ds : List Deferred} {sz : Nat} {c : Code} {K K' : AX → St → Prop} {st : St} (h : AW P org ds sz c K st) (hk : ∀ x st, K x st → K' x st) : AW P org ds sz c K' st :=
  fun m tm h1 h2 => Code.wp_mono (fun _ _ _ hp => hp.mono hk) (h m tm h1 h2)

def seqK (K : AX → St → Prop) (next : St → Prop) : AX → St → Prop
  | .normal, st => next st
  | .exit id, st => K (.exit id) st
  | .ret, st => K .ret st
  | .pan x, st => K (.pan x) st

section
variable {P : Program} {org : Me} {ds : List Deferred} {sz : Nat} {K : AX → St → Prop} {st : St}

theorem AW.seq {a b : Code} (h : AW P org ds sz a (seqK K (AW P org ds sz b K)) st) : AW P org ds sz (.seq a b) K st := by
  intro m tm h1 h2
  refine wp_seq (Code.wp_mono ?_ (h m tm h1 h2))
  rintro e ⟨tm', ds'⟩ w ⟨rfl, h4, x, st', m', rfl, h5, rfl, h6⟩
  cases x with
  | normal => exact h5 m' tm' h4 h6
  | exit id => exact ⟨rfl, h4, _, st', m', rfl, h5, rfl, h6⟩
  | ret => exact ⟨rfl, h4, _, st', m', rfl, h5, rfl, h6⟩
  | pan x => exact ⟨rfl, h4, _, st', m', rfl, h5, rfl, h6⟩

theorem AW.skip (h : K .normal st) : AW P org ds sz .skip K st :=
  fun m tm h1 h2 => wp_skip ⟨rfl, h1, .normal, st, m, rfl, h, rfl, h2⟩
theorem AW.exit {id : Nat} (h : K (.exit id) st) : AW P org ds sz (.exit id) K st :=
  fun m tm h1 h2 => wp_exit ⟨rfl, h1, .exit id, st, m, rfl, h, rfl, h2⟩
theorem AW.ret (h : K .ret st) : AW P org ds sz .ret K st :=
  fun m tm h1 h2 => wp_ret ⟨rfl, h1, .ret, st, m, rfl, h, rfl, h2⟩

def blockK (id : Nat) (K : AX → St → Prop) : AX → St → Prop
  | .exit i, st => match Nat.beq i id with
    | true => K .normal st
    | false => K (.exit i) st
  | .normal, st => K .normal st
  | .ret, st => K .ret st
  | .pan x, st => K (.pan x) st

theorem AW.block {id : Nat} {c : Code} (h : AW P org ds sz c (blockK id K) st) : AW P org ds sz (.block id c) K st := by
  intro m tm h1 h2
  refine wp_block (Code.wp_mono ?_ (h m tm h1 h2))
  rintro e ⟨tm', ds'⟩ w ⟨rfl, h4, x, st', m', rfl, h5, rfl, h6⟩
  cases x with
  | normal => exact ⟨rfl, h4, _, st', m', rfl, h5, rfl, h6⟩
  | exit i =>
    simp only [blockK] at h5
    simp only [AX.to, Exit.inBlock]
    by_cases hi : i = id
    · subst hi; simp at h5; rw [if_pos rfl]; exact ⟨rfl, h4, _, st', m', rfl, h5, rfl, h6⟩
    · have : Nat.beq i id = false := beqF hi
      rw [this] at h5; rw [if_neg hi]; exact ⟨rfl, h4, .exit i, st', m', rfl, h5, rfl, h6⟩
  | ret => exact ⟨rfl, h4, _, st', m', rfl, h5, rfl, h6⟩
  | pan x => exact ⟨rfl, h4, _, st', m', rfl, h5, rfl, h6⟩

end
end Go.Proofs.Aw
namespace Go.Proofs.Aw
open Go Go.RowKit

def ofConst : Value → LV
  | .string s => .str s.data.toList
  | v => .v v
def evO (st : St) : Operand → LV
  | .tmp t => look t st.env
  | .const v => ofConst v
  | .global g => .v (.pointer (some ⟨g, 0, none⟩))
  | .func f => .v (.func (.func f) #[] #[])

theorem Rep.ofConst (m : Me) (N : Nat) (v : Value) : Rep m N (ofConst v) v := by
  cases v <;> exact rfl

/-- what stands in a place that is no slot is not known -/
theorem Sim.slot {st : St} {m : Me} {tm : Array Value} (h : Sim st m tm) (t : Nat) (ht : t < tm.size) : Rep m st.next (look t st.env) (tm.getD t undef) := by
  rw [Array.getD_eq_getD_getElem?, Array.getElem?_eq_getElem ht]
  exact h.env t ht

/-- every slot that an operand names is one -/
def okO (sz : Nat) : Operand → Bool
  | .tmp t => Nat.blt t sz
  | _ => true

theorem Sim.ev {st : St} {m : Me} {tm : Array Value} {ds : List Deferred} (h : Sim st m tm) (x : Operand) (hx : okO tm.size x = true) : Rep m st.next (evO st x) (Act.eval ⟨tm, ds⟩ x) := by
  cases x with
  | tmp t => exact h.slot t (by simpa [okO, Nat.blt_eq] using hx)
  | const v => exact Rep.ofConst m _ v
  | global g => exact rfl
  | func f => exact rfl

theorem Sim.put {st : St} {m : Me} {tm : Array Value} (h : Sim st m tm) (d : Option Nat) {x : LV} {y : Value} (hr : Rep m st.next x y) (ds : List Deferred) : Sim (st.put d x) m ((⟨tm, ds⟩ : Act).put d y).tmps := by
  cases d with
  | none => exact h
  | some d =>
    refine ⟨h.n, fun k hk => ?_, h.obj, h.apart⟩
    simp only [Act.put, Array.size_setIfInBounds] at hk
    simp only [St.put, look, Act.put]
    by_cases e : k = d
    · subst e; rw [beqT]; simp [hr]
    · rw [beqF e]
      rw [Array.getElem_setIfInBounds (by simpa using hk), if_neg (fun h => e h.symm)]
      exact h.env k (by simpa using hk)

theorem Ok.put {org : Me} {st : St} {m : Me} {tm : Array Value} (h : Ok org st m tm) (d : Option Nat) {x : LV} {y : Value} (hr : Rep m st.next x y) (ds : List Deferred) : Ok org (st.put d x) m ((⟨tm, ds⟩ : Act).put d y).tmps :=
  ⟨h.sim.put d hr ds, h.fr, by cases d <;> exact h.low⟩

/-! ### a world that has gone on -/
theorem ownsMap_of {w w' : World} {P : Program} {k : TypeId} {R : Value → Option (DataW Unit × List MemPlace)} {b n : Nat} {D : DataW Unit} (h : World.ownsMap w P k R b n D) (e : w'.heap[b]? = w.heap[b]?) : World.ownsMap w' P k R b n D := by
  obtain ⟨es, clock, h1, h2⟩ := h
  exact ⟨es, clock, e.trans h1, h2⟩
/-- the own objects as they were, in a later world that left them alone -/
theorem RepO.fr {m m' : Me} (h : Fr m m') (N N' : Nat) (hN : N ≤ m.n) (hN' : N ≤ N') {ob : LO} {y : Value} (hr : RepO m N ob y) (hk : ∀ k, blkOf y = some k → m'.w.heap[k]? = m.w.heap[k]?) : RepO m' N' ob y := by
  cases ob with
  | box ty cs =>
    obtain ⟨b, ys, rfl, h1, h2, h3⟩ := hr
    exact ⟨b, ys, rfl, (hk b rfl).trans h1, RepL.fr h N N' hN hN' cs ys h2, h3⟩
  | arr ty sz n g =>
    obtain ⟨xs, h1, h2, h3⟩ := hr
    refine ⟨xs, ⟨h1.1, ?_⟩, h2, fun i hi => ?_⟩
    · rcases h1.2 with h4 | ⟨gg, cap, cur, rfl, h5, h6, h7⟩
      · exact .inl h4
      · exact .inr ⟨gg, cap, cur, rfl, h5, (hk gg rfl).trans h6, h7⟩
    · obtain ⟨ys, h4, h5, h6⟩ := h3 i hi
      exact ⟨ys, RepL.fr h 0 0 (Nat.zero_le _) (Nat.le_refl _) (g i) ys h4, h5, h6⟩
  | mp P kt et n f =>
    obtain ⟨b, D, rfl, h1, h2, h3, h4⟩ := hr
    exact ⟨b, D, rfl, h1, h2, ownsMap_of h3 (hk b rfl), h4⟩

/-- the frame and the objects in a later world that left the objects' blocks alone -/
theorem Ok.later {org : Me} {st : St} {m m' : Me} {tm : Array Value} (h : Ok org st m tm) (hf : Fr m m') (hn : m'.n = m.n) (hk : ∀ k, m.wr k → k < m.w.heap.size → m'.w.heap[k]? = m.w.heap[k]?) (hw : ∀ k, m.wr k → m'.wr k) : Ok org st m' tm := by
  have e := h.sim.n
  refine ⟨⟨hn.trans e, fun k hkk => Rep.fr hf _ _ (by omega) (Nat.le_refl _) _ _ (h.sim.env k hkk), fun o ob ho => ?_, fun o o' ob ob' h1 h2 h3 k hk1 => ?_⟩, h.fr.trans hf, h.low⟩
  · obtain ⟨h1, h2, h3⟩ := h.sim.obj o ob ho
    have hb := hf.b o (by omega)
    rw [hb]
    exact ⟨h1, RepO.fr hf _ _ (by omega) (Nat.le_refl _) h2 fun k hk1 => hk k (h3 k hk1).1 (h3 k hk1).2, fun k hk1 => ⟨hw k (h3 k hk1).1, Nat.lt_of_lt_of_le (h3 k hk1).2 hf.size⟩⟩
  · have l1 := (h.sim.obj o ob h1).1
    have l2 := (h.sim.obj o' ob' h2).1
    rw [hf.b o (by omega)] at hk1
    rw [hf.b o' (by omega)]
    exact h.sim.apart o o' ob ob' h1 h2 h3 k hk1

/-! ### less is known -/
def LV.le (x x' : LV) : Prop := ∀ m N y, Rep m N x y → Rep m N x' y
theorem LV.le.refl (x : LV) : LV.le x x := fun _ _ _ h => h
theorem LV.le.any (x : LV) : LV.le x .any := fun _ _ _ _ => trivial
theorem LV.le.bs (b : Bool) : LV.le (.v (.bool b)) (.bs b) := fun _ _ _ h => h
theorem LV.le.int {k : IntKind} {a b : Int} (h : a = b) : LV.le (.v (.int k a)) (.v (.int k b)) := by subst h; exact LV.le.refl _
theorem LV.le.eq {a b : LV} (h : a = b) : LV.le a b := by subst h; exact LV.le.refl _
theorem LV.le.sl {sz n n' : Nat} {g g' : Nat → List LV} (hn : n = n') (h : ∀ i, i < n → g i = g' i) : LV.le (.sl sz n g) (.sl sz n' g') := by
  subst hn
  intro m N y hr
  obtain ⟨A, cap, rfl, h1, h2, h3, h4⟩ := hr
  refine ⟨A, cap, rfl, h1, h2, h3, fun h0 => ?_⟩
  obtain ⟨b, off, rfl, h5, h6, h7⟩ := h4 h0
  refine ⟨b, off, rfl, h5, h6, fun i hi => ?_⟩
  rw [← h i hi]
  exact h7 i hi

def leL : List LV → List LV → Prop
  | [], l => l = []
  | x :: xs, l => ∃ x' xs', l = x' :: xs' ∧ LV.le x x' ∧ leL xs xs'
theorem RepL.le {m : Me} {N : Nat} : ∀ {xs xs' : List LV} {ys : List Value}, leL xs xs' → RepL m N xs ys → RepL m N xs' ys
  | [], _, _, h, hr => by rw [show _ = [] from h]; exact hr
  | x :: xs, _, ys, h, hr => by
    obtain ⟨x', xs', rfl, h1, h2⟩ := h
    obtain ⟨y, r, rfl, h3, h4⟩ := hr
    exact ⟨y, r, rfl, h1 _ _ _ h3, RepL.le h2 h4⟩
theorem leL.refl : ∀ l, leL l l
  | [] => rfl
  | x :: xs => ⟨x, xs, rfl, LV.le.refl x, leL.refl xs⟩
theorem LV.le.agg {cs cs' : List LV} (h : leL cs cs') : LV.le (.agg cs) (.agg cs') := by
  intro m N y hr
  obtain ⟨ys, rfl, h1, h2⟩ := hr
  exact ⟨ys, rfl, RepL.le h h1, h2⟩
theorem LV.le.tup {cs cs' : List LV} (h : leL cs cs') : LV.le (.tup cs) (.tup cs') := by
  intro m N y hr
  obtain ⟨ys, rfl, h1⟩ := hr
  exact ⟨ys, rfl, RepL.le h h1⟩

def LO.le (a b : LO) : Prop := ∀ m N y, RepO m N a y → RepO m N b y
theorem LO.le.refl (a : LO) : LO.le a a := fun _ _ _ h => h
theorem LO.le.box {ty : TypeId} {cs cs' : List LV} (h : leL cs cs') : LO.le (.box ty cs) (.box ty cs') := by
  intro m N y hr
  obtain ⟨b, ys, rfl, h1, h2, h3⟩ := hr
  exact ⟨b, ys, rfl, h1, RepL.le h h2, h3⟩
theorem LO.le.arr {ty sz n n' : Nat} {g g' : Nat → List LV} (hn : n = n') (h : ∀ i, i < n → g i = g' i) : LO.le (.arr ty sz n g) (.arr ty sz n' g') := by
  subst hn
  intro m N y hr
  obtain ⟨xs, h1, h2, h3⟩ := hr
  exact ⟨xs, h1, h2, fun i hi => by rw [← h i hi]; exact h3 i hi⟩

mutual
/-- all objects that it names have numbers below N -/
def LV.under (N : Nat) : LV → Bool
  | .agg cs => underL N cs
  | .tup cs => underL N cs
  | .lp o _ => Nat.blt o N
  | .el o _ _ _ => Nat.blt o N
  | .ls o _ => Nat.blt o N
  | .as o _ _ => Nat.blt o N
  | .mp o => Nat.blt o N
  | .clo _ a b => underL N a && underL N b
  | _ => true
def underL (N : Nat) : List LV → Bool
  | [] => true
  | x :: xs => LV.under N x && underL N xs
end

mutual
theorem Rep.down {m : Me} {N N' : Nat} : ∀ (x : LV) (y : Value), x.under N' = true → Rep m N x y → Rep m N' x y
  | .any, _, _, _ => trivial
  | .v _, _, _, h => h
  | .bs _, _, _, h => h
  | .str _, _, _, h => h
  | .sl _ _ _, _, _, h => h
  | .sp _ _, _, _, h => h
  | .agg cs, y, hu, h => by
    obtain ⟨ys, rfl, h1, h2⟩ := h
    exact ⟨ys, rfl, RepL.down cs ys (by simpa [LV.under] using hu) h1, h2⟩
  | .tup cs, y, hu, h => by
    obtain ⟨ys, rfl, h1⟩ := h
    exact ⟨ys, rfl, RepL.down cs ys (by simpa [LV.under] using hu) h1⟩
  | .lp o _, y, hu, h => ⟨by simpa [LV.under, Nat.blt_eq] using hu, h.2⟩
  | .el o _ _ _, y, hu, h => ⟨by simpa [LV.under, Nat.blt_eq] using hu, h.2⟩
  | .ls o _, y, hu, h => ⟨by simpa [LV.under, Nat.blt_eq] using hu, h.2⟩
  | .as o _ _, y, hu, h => ⟨by simpa [LV.under, Nat.blt_eq] using hu, h.2⟩
  | .mp o, y, hu, h => ⟨by simpa [LV.under, Nat.blt_eq] using hu, h.2⟩
  | .ly _ _ _, _, _, h => h
  | .clo _ a b, y, hu, h => by
    obtain ⟨fs, cs, rfl, h1, h2⟩ := h
    simp only [LV.under, Bool.and_eq_true] at hu
    exact ⟨fs, cs, rfl, RepL.down a fs hu.1 h1, RepL.down b cs hu.2 h2⟩
theorem RepL.down {m : Me} {N N' : Nat} : ∀ (xs : List LV) (ys : List Value), underL N' xs = true → RepL m N xs ys → RepL m N' xs ys
  | [], _, _, h => h
  | x :: xs, ys, hu, h => by
    obtain ⟨y, r, rfl, h1, h2⟩ := h
    simp only [underL, Bool.and_eq_true] at hu
    exact ⟨y, r, rfl, Rep.down x y hu.1 h1, RepL.down xs r hu.2 h2⟩
end

def LO.under (N : Nat) : LO → Bool
  | .box _ cs => underL N cs
  | .arr .. => true
  | .mp .. => true

/-- st' tells what st tells, or less -/
def leE (st : St) (N : Nat) : List (Nat × LV) → Prop
  | [] => True
  | (k, x) :: r => LV.le (look k st.env) x ∧ LV.under N x = true ∧ leE st N r
def leO (st : St) (N : Nat) : List (Nat × LO) → Prop
  | [] => True
  | (o, ob) :: r => (∃ ob0, lookO o st.objs = some ob0 ∧ LO.le ob0 ob) ∧ Nat.blt o N = true ∧ LO.under N ob = true ∧ leO st N r
structure St.le (st st' : St) : Prop where
  low : st'.low = st.low
  next : Nat.ble st'.low st'.next = true ∧ st'.next ≤ st.next
  env : leE st st'.next st'.env
  objs : leO st st'.next st'.objs

theorem leE.look {st : St} {N : Nat} : ∀ {e : List (Nat × LV)}, leE st N e → ∀ k, LV.le (look k st.env) (look k e) ∧ LV.under N (look k e) = true
  | [], _, k => ⟨LV.le.any _, rfl⟩
  | (j, x) :: r, h, k => by
    obtain ⟨h1, h2, h3⟩ := h
    by_cases e : k = j
    · subst e; simp only [Aw.look, beqT]; exact ⟨h1, h2⟩
    · simp only [Aw.look, beqF e]; exact leE.look h3 k

theorem leO.look {st : St} {N : Nat} : ∀ {e : List (Nat × LO)}, leO st N e → ∀ o ob, lookO o e = some ob → (∃ ob0, lookO o st.objs = some ob0 ∧ LO.le ob0 ob) ∧ o < N ∧ LO.under N ob = true
  | [], _, o, ob, h => by simp [lookO] at h
  | (j, x) :: r, h, o, ob, ho => by
    obtain ⟨h1, h2, h3, h4⟩ := h
    by_cases e : o = j
    · subst e; simp only [lookO, beqT, Option.some.injEq] at ho; subst ho; exact ⟨h1, by simpa [Nat.blt_eq] using h2, h3⟩
    · simp only [lookO, beqF e] at ho; exact leO.look h4 o ob ho

theorem RepO.down {m : Me} {N N' : Nat} {ob : LO} {y : Value} (hu : ob.under N' = true) (h : RepO m N ob y) : RepO m N' ob y := by
  cases ob with
  | box ty cs =>
    obtain ⟨b, ys, rfl, h1, h2, h3⟩ := h
    exact ⟨b, ys, rfl, h1, RepL.down cs ys hu h2, h3⟩
  | arr ty sz n g => exact h
  | mp P kt et n f => exact h

/-- the same memory, fewer objects told of -/
def Me.cut (m : Me) (N : Nat) : Me := { m with n := N }

mutual
theorem Rep.cut {m : Me} {M N : Nat} : ∀ (x : LV) (y : Value), Rep m N x y → Rep (m.cut M) N x y
  | .any, _, _ => trivial
  | .v _, _, h => h
  | .bs _, _, h => h
  | .str _, _, h => h
  | .sl sz n g, y, h => by
    obtain ⟨A, cap, rfl, h1, h2, h3, h4⟩ := h
    refine ⟨A, cap, rfl, h1, h2, h3, fun h0 => ?_⟩
    obtain ⟨b, off, rfl, h5, h6, h7⟩ := h4 h0
    refine ⟨b, off, rfl, h5, h6, fun i hi => ?_⟩
    obtain ⟨ys, h8, h9⟩ := h7 i hi
    exact ⟨ys, RepL.cut (g i) ys h8, h9⟩
  | .sp cs off, y, h => by
    obtain ⟨b, o, ys, rfl, h1, h2, h3, h4⟩ := h
    exact ⟨b, o, ys, rfl, h1, h2, RepL.cut cs ys h3, h4⟩
  | .agg cs, y, h => by
    obtain ⟨ys, rfl, h1, h2⟩ := h
    exact ⟨ys, rfl, RepL.cut cs ys h1, h2⟩
  | .tup cs, y, h => by
    obtain ⟨ys, rfl, h1⟩ := h
    exact ⟨ys, rfl, RepL.cut cs ys h1⟩
  | .lp o _, y, h => h
  | .el o _ _ _, y, h => h
  | .ls o _, y, h => h
  | .as o _ _, y, h => h
  | .mp o, y, h => h
  | .ly _ _ _, _, h => h
  | .clo _ a b, y, h => by
    obtain ⟨fs, cs, rfl, h1, h2⟩ := h
    exact ⟨fs, cs, rfl, RepL.cut a fs h1, RepL.cut b cs h2⟩
theorem RepL.cut {m : Me} {M N : Nat} : ∀ (xs : List LV) (ys : List Value), RepL m N xs ys → RepL (m.cut M) N xs ys
  | [], _, h => h
  | x :: xs, ys, h => by
    obtain ⟨y, r, rfl, h1, h2⟩ := h
    exact ⟨y, r, rfl, Rep.cut x y h1, RepL.cut xs r h2⟩
end
theorem RepO.cut {m : Me} {M N : Nat} {ob : LO} {y : Value} (h : RepO m N ob y) : RepO (m.cut M) N ob y := by
  cases ob with
  | box ty cs =>
    obtain ⟨b, ys, rfl, h1, h2, h3⟩ := h
    exact ⟨b, ys, rfl, h1, RepL.cut cs ys h2, h3⟩
  | arr ty sz n g =>
    obtain ⟨xs, h1, h2, h3⟩ := h
    refine ⟨xs, h1, h2, fun i hi => ?_⟩
    obtain ⟨ys, h4, h5⟩ := h3 i hi
    exact ⟨ys, RepL.cut (g i) ys h4, h5⟩
  | mp P kt et n f => exact h

theorem Ok.le {org : Me} {st st' : St} {m : Me} {tm : Array Value} (h : Ok org st m tm) (hl : St.le st st') : Ok org st' (m.cut st'.next) tm := by
  have e := h.sim.n
  have e2 := h.low
  have h3 := hl.next.1
  have h4 := hl.low
  rw [Nat.ble_eq] at h3
  refine ⟨⟨rfl, fun k hk => ?_, fun o ob ho => ?_, fun o o' ob ob' h1 h2 h3 k hk1 => ?_⟩, ?_, hl.low.trans h.low⟩
  · obtain ⟨h1, h2⟩ := hl.env.look k
    exact Rep.cut _ _ (Rep.down _ _ h2 (h1 _ _ _ (h.sim.env k hk)))
  · obtain ⟨⟨ob0, h1, h2⟩, h3, h4⟩ := hl.objs.look o ob ho
    obtain ⟨h5, h6, h7⟩ := h.sim.obj o ob0 h1
    exact ⟨h3, RepO.cut (RepO.down h4 (h2 _ _ _ h6)), h7⟩
  · obtain ⟨⟨a, ha, _⟩, _⟩ := hl.objs.look o ob h1
    obtain ⟨⟨b, hb, _⟩, _⟩ := hl.objs.look o' ob' h2
    exact h.sim.apart o o' a b ha hb h3 k hk1
  · have f := h.fr
    exact ⟨f.os, f.tape, f.output, f.size, f.keep, f.wr, f.vo, f.vk, f.b, by show org.n ≤ st'.next; omega⟩

/-- st' may be told where st is told, of the same memory -/
def St.to (st st' : St) : Prop := ∀ org m tm, Ok org st m tm → ∃ m', m'.w = m.w ∧ Ok org st' m' tm
theorem St.to.le {st st' : St} (h : St.le st st') : St.to st st' := fun org m tm hO => ⟨m.cut st'.next, rfl, hO.le h⟩
theorem St.to.trans {a b c : St} (h : St.to a b) (k : St.to b c) : St.to a c := fun org m tm hO => by
  obtain ⟨m1, e1, h1⟩ := h org m tm hO
  obtain ⟨m2, e2, h2⟩ := k org m1 tm h1
  exact ⟨m2, e2.trans e1, h2⟩

theorem AW.le {P : Program} {org : Me} {ds : List Deferred} {sz : Nat} {c : Code} {K : AX → St → Prop} {st st' : St} (hl : St.le st st') (h : AW P org ds sz c K st') : AW P org ds sz c K st :=
  fun m tm h1 h2 => h (m.cut st'.next) tm h1 (h2.le hl)

/-- a loop, by a family of states; 'φ' tells which of them are met, 'μ' goes down with each round -/
theorem AW.loop {P : Program} {org : Me} {ds : List Deferred} {sz : Nat} {c : Code} {K : AX → St → Prop} {st : St} {ι : Type} (I : ι → St) (φ : ι → Prop) (μ : ι → Nat) (i0 : ι) (h0 : φ i0) (hl : St.to st (I i0))
    (hr : ∀ i, φ i → AW P org ds sz c (seqK K fun st' => ∃ j, φ j ∧ μ j < μ i ∧ St.to st' (I j)) (I i)) : AW P org ds sz (.loop c) K st := by
  intro m0 tm h1 h2
  obtain ⟨m, hm0, h2⟩ := hl org m0 tm h2
  rw [← hm0]
  refine wp_loop_ghost (fun n a w => a.defers = ds ∧ a.tmps.size = sz ∧ ∃ i m, φ i ∧ μ i = n ∧ m.w = w ∧ Ok org (I i) m a.tmps) (μ i0) ⟨rfl, h1, i0, _, h0, rfl, rfl, h2⟩ ?_
  rintro n ⟨tm', ds'⟩ w ⟨rfl, h3, i, m', h4, rfl, rfl, h5⟩
  refine Code.wp_mono ?_ (hr i h4 m' tm' h3 h5)
  rintro e ⟨tm2, ds2⟩ w2 ⟨rfl, h6, x, st2, m2, rfl, h7, rfl, h8⟩
  cases x with
  | normal =>
    obtain ⟨j, h9, h10, h11⟩ := h7
    obtain ⟨m3, e3, h12⟩ := h11 org m2 tm2 h8
    exact ⟨μ j, h10, rfl, h6, j, m3, h9, rfl, e3, h12⟩
  | exit id => exact ⟨rfl, h6, _, st2, m2, rfl, h7, rfl, h8⟩
  | ret => exact ⟨rfl, h6, _, st2, m2, rfl, h7, rfl, h8⟩
  | pan x => exact ⟨rfl, h6, _, st2, m2, rfl, h7, rfl, h8⟩

end Go.Proofs.Aw
namespace Go.Proofs.Aw
open Go Go.RowKit

/-! ### types -/
inductive TK where
  | bool | int (k : IntKind) | str | ptr (e : TypeId) | slice (e : TypeId) | arr (n : Nat) (e : TypeId) | struct (fs : List (Nat × TypeId)) | iface | map (k e : TypeId) | other
structure TI where
  k : TK
  size : Nat
  bytes : Nat
  zero : List LV
inductive Tab where
  | nil
  | node (l : Tab) (t : Nat) (i : TI) (r : Tab)
def Tab.find (T : Tab) (t : Nat) : Option TI := match T with
  | .nil => none
  | .node l k i r => match Nat.beq t k with
    | true => some i
    | false => match Nat.blt t k with
      | true => l.find t
      | false => r.find t
def TK.ok (P : Program) (t : TypeId) : TK → Prop
  | .bool => P.underlying t = some .bool
  | .int k => P.underlying t = some (.int k)
  | .str => P.underlying t = some .string
  | .ptr e => P.underlying t = some (.pointer e)
  | .slice e => P.underlying t = some (.slice e)
  | .arr n e => P.underlying t = some (.array n e)
  | .struct fs => ∃ a, P.underlying t = some (.struct a) ∧ a.toList.map (fun f => (f.offset, f.type)) = fs
  | .iface => ∃ ms, P.underlying t = some (.interface ms)
  | .map k e => P.underlying t = some (.map k e)
  | .other => True
def TK.agg : TK → Bool
  | .arr .. => true
  | .struct .. => true
  | _ => false
structure TI.ok (P : Program) (t : TypeId) (ti : TI) : Prop where
  k : ti.k.ok P t
  d : ∃ d, P.underlying t = some d ∧ (match d with | .struct _ | .array _ _ => true | _ => false) = ti.k.agg
  o : ∀ i z, P.info? t = some i → i.zero = some z → z.oneCell' = !ti.k.agg
  i : ∃ i z, P.info? t = some i ∧ i.size = ti.size ∧ i.bytes = ti.bytes ∧ i.zero = some z ∧ z.cells.toList.map ofConst = ti.zero ∧ z.cells.toList.all (·.oneCell') = true ∧ z.cells.size = ti.size
theorem tiO {P : Program} {t : TypeId} {i0 : TypeInfo} {z0 : Value} {b : Bool} (h : P.info? t = some i0) (hz : i0.zero = some z0) (ho : z0.oneCell' = b) : ∀ i z, P.info? t = some i → i.zero = some z → z.oneCell' = b := by
  intro i z h1 h2
  rw [h] at h1
  injection h1 with h1
  subst h1
  rw [hz] at h2
  injection h2 with h2
  subst h2
  exact ho
def Tab.Ok (P : Program) : Tab → Prop
  | .nil => True
  | .node l t i r => l.Ok P ∧ i.ok P t ∧ r.Ok P
theorem Tab.Ok.find {P : Program} : ∀ {T : Tab}, T.Ok P → ∀ {t ti}, T.find t = some ti → ti.ok P t
  | .nil, _, t, ti, h => by simp [Tab.find] at h
  | .node l k i r, ⟨h1, h2, h3⟩, t, ti, h => by
    simp only [Tab.find] at h
    split at h
    · rename_i e
      have e' := Nat.eq_of_beq_eq_true e
      subst e'
      injection h with h
      subst h
      exact h2
    · split at h
      · exact Tab.Ok.find h1 h
      · exact Tab.Ok.find h3 h

/-! ### calls -/
def FnOk (P : Program) (f : FuncId) : Prop := ∀ args w, (callFunc f args).run P w = .ok (.enter f args) w
def CallA (P : Program) (f : FuncId) (args : List LV) (k : LV → St → Prop) (kp : Value → St → Prop) (st : St) : Prop :=
  FnOk P f ∧ ∀ org m tm vs, Ok org st m tm → RepL m st.next args vs → Calls P f vs.toArray m.w fun e w' =>
    ∃ st' m', m'.w = w' ∧ Ok org st' m' tm ∧ ((∃ y x, e = .returned y ∧ Rep m' st'.next x y ∧ k x st') ∨ (∃ x, e = .panicked [{ v := x, recovered := false }] ∧ kp x st'))

/-! ### what an operation does -/
def OpSem (P : Program) (ds : List Deferred) (o : Oper) (k : LV → St → Prop) (kp : Value → St → Prop) (st : St) : Prop :=
  ∀ org m tm, (∀ x ∈ o.op.operands.toList, okO tm.size x = true) → Ok org st m tm → ∀ (next : Act → World → Prop) (Q : Exit → Act → World → Prop),
    (∀ y x st' m', k x st' → Ok org st' m' tm → Rep m' st'.next x y → next ((⟨tm, ds⟩ : Act).put o.dst y) m'.w) →
    (∀ x st' m', kp x st' → Ok org st' m' tm → Q (.panic [{ v := x, recovered := false }]) ⟨tm, ds⟩ m'.w) → o.wp P ⟨tm, ds⟩ m.w next Q

theorem OpSem.val {P : Program} {ds : List Deferred} {o : Oper} {k : LV → St → Prop} {kp : Value → St → Prop} {st : St}
    (h : ∀ org m tm, (∀ x ∈ o.op.operands.toList, okO tm.size x = true) → Ok org st m tm → ∃ y x st' m', (execOp (Act.eval ⟨tm, ds⟩) o).run P m.w = .ok (.value y) m'.w ∧ k x st' ∧ Ok org st' m' tm ∧ Rep m' st'.next x y) : OpSem P ds o k kp st := by
  intro org m tm h1 h2 next Q hn hp
  obtain ⟨y, x, st', m', h3, h4, h5, h6⟩ := h org m tm h1 h2
  unfold Oper.wp
  rw [h3]
  exact hn y x st' m' h4 h5 h6

theorem OpSem.unit {P : Program} {ds : List Deferred} {o : Oper} {k : LV → St → Prop} {kp : Value → St → Prop} {st : St}
    (h : ∀ org m tm, (∀ x ∈ o.op.operands.toList, okO tm.size x = true) → Ok org st m tm → ∃ st' m', (execOp (Act.eval ⟨tm, ds⟩) o).run P m.w = .ok .skip m'.w ∧ k .any st' ∧ Ok org st' m' tm) : OpSem P ds o k kp st := by
  intro org m tm h1 h2 next Q hn hp
  obtain ⟨st', m', h3, h4, h5⟩ := h org m tm h1 h2
  unfold Oper.wp
  rw [h3]
  exact hn undef .any st' m' h4 h5 trivial

theorem OpSem.pure {P : Program} {ds : List Deferred} {o : Oper} {k : LV → St → Prop} {kp : Value → St → Prop} {st : St} (x : LV) (hk : k x st)
    (h : ∀ org m tm, (∀ x ∈ o.op.operands.toList, okO tm.size x = true) → Ok org st m tm → ∃ y, (execOp (Act.eval ⟨tm, ds⟩) o).run P m.w = .ok (.value y) m.w ∧ Rep m st.next x y) : OpSem P ds o k kp st :=
  OpSem.val fun org m tm h1 h2 => by
    obtain ⟨y, h3, h4⟩ := h org m tm h1 h2
    exact ⟨y, x, st, m, h3, hk, h2, h4⟩

/-! ### lists of operations -/
def AL (P : Program) (org : Me) (ds : List Deferred) (sz : Nat) (ops : Array Oper) (l : List Oper) (K : AX → St → Prop) (st : St) : Prop :=
  ∀ m tm, tm.size = sz → Ok org st m tm → wpList P ops (Post org ds sz K) l ⟨tm, ds⟩ m.w

theorem put_size (tm : Array Value) (ds : List Deferred) (d : Option Nat) (y : Value) : ((⟨tm, ds⟩ : Act).put d y).tmps.size = tm.size := by
  cases d <;> simp [Act.put]
theorem put_ds (tm : Array Value) (ds : List Deferred) (d : Option Nat) (y : Value) : ((⟨tm, ds⟩ : Act).put d y) = ⟨((⟨tm, ds⟩ : Act).put d y).tmps, ds⟩ := by
  cases d <;> rfl

def opOk (sz : Nat) (o : Oper) : Bool := o.op.operands.toList.all (okO sz)

section
variable {P : Program} {org : Me} {ds : List Deferred} {sz : Nat} {ops : Array Oper} {l : List Oper} {o : Oper} {K : AX → St → Prop} {st : St}

theorem AL.nil (h : K .normal st) : AL P org ds sz ops [] K st :=
  fun m tm h1 h2 => wpList_nil ⟨rfl, h1, .normal, st, m, rfl, h, rfl, h2⟩

theorem AL.doOp (hok : opOk sz o = true) (hw : ∀ m tm, tm.size = sz → Ok org st m tm → Region.wanted o (yielded ops tm) = true)
    (h : OpSem P ds o (fun x st' => AL P org ds sz ops l K (st'.put o.dst x)) (fun x st' => K (.pan x) st') st) : AL P org ds sz ops (o :: l) K st := by
  intro m tm h1 h2
  refine wpList_step fun K' hK' => ?_
  rw [if_pos (hw m tm h1 h2)]
  refine h org m tm (fun x hx => by subst h1; exact (List.all_eq_true.1 hok) x hx) h2 _ _ ?_ ?_
  · intro y x st' m' h3 h4 h5
    have h6 := h3 m' _ ((put_size tm ds o.dst y).trans h1) (h4.put o.dst h5 ds)
    rw [put_ds]
    exact hK' _ _ h6
  · intro x st' m' h3 h4
    exact ⟨rfl, h1, .pan x, st', m', rfl, h3, rfl, h4⟩

theorem AL.skipOp (hw : ∀ m tm, tm.size = sz → Ok org st m tm → Region.wanted o (yielded ops tm) = false) (h : AL P org ds sz ops l K (st.put o.dst (.tup []))) : AL P org ds sz ops (o :: l) K st := by
  intro m tm h1 h2
  refine wpList_step fun K' hK' => ?_
  rw [if_neg (by rw [hw m tm h1 h2]; simp)]
  have h6 := h m _ ((put_size tm ds o.dst undef).trans h1) (h2.put o.dst (x := .tup []) (y := undef) ⟨[], rfl, rfl⟩ ds)
  rw [put_ds]
  exact hK' _ _ h6

theorem AL.split {d : Nat} {b : Bool} (hd : look d st.env = .bs b) (ht : b = true → AL P org ds sz ops l K (st.put (some d) (.v (.bool true)))) (hf : b = false → AL P org ds sz ops l K (st.put (some d) (.v (.bool false)))) : AL P org ds sz ops l K st := by
  intro m tm h1 h2
  have key : ∀ c : Bool, b = c → Ok org (st.put (some d) (.v (.bool c))) m tm := by
    intro c hc
    subst hc
    refine ⟨⟨h2.sim.n, fun k hk => ?_, h2.sim.obj, h2.sim.apart⟩, h2.fr, h2.low⟩
    have := h2.sim.env k hk
    simp only [St.put, look]
    by_cases e : k = d
    · subst e; rw [beqT]; rw [hd] at this; exact this
    · rw [beqF e]; exact this
  cases b with
  | true => exact ht rfl m tm h1 (key true rfl)
  | false => exact hf rfl m tm h1 (key false rfl)
end

def nth {α : Type} : List α → Nat → Option α
  | [], _ => none
  | x :: _, 0 => some x
  | _ :: r, n + 1 => nth r n
theorem nth_eq {α : Type} : ∀ (l : List α) (i : Nat), nth l i = l[i]?
  | [], i => by simp [nth]
  | x :: r, 0 => by simp [nth]
  | x :: r, n + 1 => by simp [nth, nth_eq r n]

/-- an operation under its guard -/
def guardA (ops : List Oper) (sz : Nat) (o : Oper) (yes no : St → Prop) (st : St) : Prop :=
  match o.guard with
  | none => yes st
  | some (j, want) => match nth ops j with
    | none => False
    | some oj => match oj.dst with
      | none => False
      | some d => match Nat.blt d sz with
        | false => False
        | true => match look d st.env with
          | .v (.bool true) => match want with
            | true => yes st
            | false => no st
          | .v (.bool false) => match want with
            | true => no st
            | false => yes st
          | .bs b => match want with
            | true => (b = true → yes (st.put (some d) (.v (.bool true)))) ∧ (b = false → no (st.put (some d) (.v (.bool false))))
            | false => (b = true → no (st.put (some d) (.v (.bool true)))) ∧ (b = false → yes (st.put (some d) (.v (.bool false))))
          | .tup [] => no st
          | _ => False

section
variable {P : Program} {org : Me} {ds : List Deferred} {sz : Nat} {ops l : List Oper} {o : Oper} {K : AX → St → Prop}

theorem wanted_at {tm : Array Value} {j : Nat} {want : Bool} {oj : Oper} {d : Nat} {c : Bool} (hg : o.guard = some (j, want)) (hj : nth ops j = some oj) (hd : oj.dst = some d) (hs : d < tm.size) (hv : tm[d] = .bool c) : Region.wanted o (yielded ops.toArray tm) = (c == want) := by
  rw [nth_eq] at hj
  simp [Region.wanted, hg, yielded, hj, hd, hs, hv]

theorem wanted_undef {tm : Array Value} {j : Nat} {want : Bool} {oj : Oper} {d : Nat} (hg : o.guard = some (j, want)) (hj : nth ops j = some oj) (hd : oj.dst = some d) (hs : d < tm.size) (hv : tm[d] = .tuple #[]) : Region.wanted o (yielded ops.toArray tm) = false := by
  rw [nth_eq] at hj
  simp [Region.wanted, hg, yielded, hj, hd, hs, hv]

theorem AL.guard (hok : opOk sz o = true) {st : St}
    (h : guardA ops sz o (fun st' => OpSem P ds o (fun x st' => AL P org ds sz ops.toArray l K (st'.put o.dst x)) (fun x st' => K (.pan x) st') st') (fun st' => AL P org ds sz ops.toArray l K (st'.put o.dst (.tup []))) st) : AL P org ds sz ops.toArray (o :: l) K st := by
  unfold guardA at h
  split at h
  · rename_i hg
    exact AL.doOp hok (fun m tm _ _ => by simp [Region.wanted, hg]) h
  · rename_i j want hg
    split at h
    · exact h.elim
    · rename_i oj hj
      split at h
      · exact h.elim
      · rename_i d hd
        split at h
        · exact h.elim
        · rename_i hs
          rw [Nat.blt_eq] at hs
          have key : ∀ (st : St) (c : Bool), look d st.env = .v (.bool c) → ∀ m tm, tm.size = sz → Ok org st m tm → Region.wanted o (yielded ops.toArray tm) = (c == want) := by
            intro st c hc m tm h1 h2
            have := h2.sim.env d (by omega)
            rw [hc] at this
            exact wanted_at hg hj hd (by omega) this
          have put_look : ∀ (st : St) (x : LV), look d (st.put (some d) x).env = x := fun st x => by simp [St.put, look]
          split at h
          · rename_i hl
            cases want with
            | true => exact AL.doOp hok (fun m tm h1 h2 => by rw [key _ _ hl m tm h1 h2]; rfl) h
            | false => exact AL.skipOp (fun m tm h1 h2 => by rw [key _ _ hl m tm h1 h2]; rfl) h
          · rename_i hl
            cases want with
            | true => exact AL.skipOp (fun m tm h1 h2 => by rw [key _ _ hl m tm h1 h2]; rfl) h
            | false => exact AL.doOp hok (fun m tm h1 h2 => by rw [key _ _ hl m tm h1 h2]; rfl) h
          · rename_i b hl
            cases want with
            | true =>
              refine AL.split hl (fun hb => ?_) (fun hb => ?_)
              · exact AL.doOp hok (fun m tm h1 h2 => by rw [key _ true (put_look _ _) m tm h1 h2]; rfl) (h.1 hb)
              · exact AL.skipOp (fun m tm h1 h2 => by rw [key _ false (put_look _ _) m tm h1 h2]; rfl) (h.2 hb)
            | false =>
              refine AL.split hl (fun hb => ?_) (fun hb => ?_)
              · exact AL.skipOp (fun m tm h1 h2 => by rw [key _ true (put_look _ _) m tm h1 h2]; rfl) (h.1 hb)
              · exact AL.doOp hok (fun m tm h1 h2 => by rw [key _ false (put_look _ _) m tm h1 h2]; rfl) (h.2 hb)
          · rename_i hl
            refine AL.skipOp (fun m tm h1 h2 => ?_) h
            have := h2.sim.env d (by omega)
            rw [hl] at this
            obtain ⟨ys, hy, h3⟩ := this
            have h3 : ys = [] := h3
            subst h3
            exact wanted_undef hg hj hd (by omega) hy
          · exact h.elim
end

theorem AW.region {P : Program} {org : Me} {ds : List Deferred} {sz id : Nat} {ops : Array Oper} {K : AX → St → Prop} {st : St} (h : AL P org ds sz ops ops.toList K st) : AW P org ds sz (.region id ops false) K st :=
  fun m tm h1 h2 => wp_region_list (h m tm h1 h2)

/-- a test -/
def condA (x : LV) (t e : Prop) : Prop := match x with
  | .v (.bool true) => t
  | .v (.bool false) => e
  | .bs b => (b = true → t) ∧ (b = false → e)
  | _ => False

theorem AW.cond {P : Program} {org : Me} {ds : List Deferred} {sz : Nat} {c : Operand} {a b : Code} {K : AX → St → Prop} {st : St} (hc : okO sz c = true)
    (h : condA (evO st c) (AW P org ds sz a K st) (AW P org ds sz b K st)) : AW P org ds sz (.cond c a b) K st := by
  intro m tm h1 h2
  have he := h2.sim.ev (ds := ds) c (by rw [h1]; exact hc)
  unfold condA at h
  split at h
  · rename_i hx; rw [hx] at he; exact wp_cond_true he (h m tm h1 h2)
  · rename_i hx; rw [hx] at he; exact wp_cond_false he (h m tm h1 h2)
  · rename_i q hx; rw [hx] at he
    exact wp_cond_split he (fun hq => h.1 hq m tm h1 h2) (fun hq => h.2 hq m tm h1 h2)
  · exact h.elim

end Go.Proofs.Aw
namespace Go.Proofs.Aw
open Go Go.RowKit

/-! ### memory that is made, and memory that is written -/
def setB (b : Nat → Value) (i : Nat) (y : Value) : Nat → Value := fun j => if j = i then y else b j

def eraseO (o : Nat) : List (Nat × LO) → List (Nat × LO)
  | [] => []
  | (j, x) :: r => match Nat.beq o j with
    | true => eraseO o r
    | false => (j, x) :: eraseO o r
theorem lookO_erase (o k : Nat) : ∀ l, lookO k (eraseO o l) = if k = o then none else lookO k l
  | [] => by simp [eraseO, lookO]
  | (j, x) :: r => by
    by_cases e : o = j
    · subst e
      simp only [eraseO, beqT, lookO_erase o k r, lookO]
      by_cases e2 : k = o
      · simp [e2]
      · simp [e2, beqF e2]
    · simp only [eraseO, beqF e, lookO, lookO_erase o k r]
      by_cases e2 : k = j
      · subst e2; simp only [beqT, if_neg (fun h : k = o => e h.symm)]
      · simp only [beqF e2]

/-- the memory behind a new object's making -/
def Me.grow (m : Me) (w' : World) (y : Value) (hsz : m.w.heap.size ≤ w'.heap.size) (hy : ∀ k, blkOf y = some k → k < w'.heap.size) : Me where
  w := w'
  b := setB m.b m.n y
  vo := fun k => m.vo k ∨ blkOf y = some k
  wr := fun k => m.wr k ∨ blkOf y = some k
  n := m.n + 1
  sub := fun k h => by
    rcases h with h | h
    · exact .inl (m.sub k h)
    · exact .inr h
  lt := fun k h => by
    rcases h with h | h
    · exact Nat.lt_of_lt_of_le (m.lt k h) hsz
    · exact hy k h

structure SameSys (w w' : World) : Prop where
  os : w'.os = w.os
  tape : w'.tape = w.tape
  output : w'.output = w.output
theorem SameSys.refl (w : World) : SameSys w w := ⟨rfl, rfl, rfl⟩

/-- a new object; object 'drop' (if any) is no more, its block may be the new one's -/
theorem Ok.grow {org : Me} {st : St} {m : Me} {tm : Array Value} (h : Ok org st m tm) (w' : World) (y : Value) (ob : LO) (drop : Option Nat) (objs : List (Nat × LO))
    (hsys : SameSys m.w w') (hsz : m.w.heap.size ≤ w'.heap.size) (hy : ∀ k, blkOf y = some k → k < w'.heap.size)
    (hkeep : ∀ k, k < m.w.heap.size → (∀ o, drop = some o → blkOf (m.b o) ≠ some k) → w'.heap[k]? = m.w.heap[k]?)
    (hdrop : ∀ o, drop = some o → ∃ ob0, lookO o st.objs = some ob0)
    (hobjs : ∀ k ob', lookO k objs = some ob' → lookO k st.objs = some ob' ∧ drop ≠ some k)
    (hfresh : ∀ k, blkOf y = some k → m.w.heap.size ≤ k ∨ ∃ o, drop = some o ∧ blkOf (m.b o) = some k)
    (hr : RepO (m.grow w' y hsz hy) (st.next + 1) ob y) :
    Ok org { st with objs := (st.next, ob) :: objs, next := st.next + 1 } (m.grow w' y hsz hy) tm ∧ Fr m (m.grow w' y hsz hy) ∧ (m.grow w' y hsz hy).b st.next = y := by
  have hn := h.sim.n
  have hwr : ∀ o, drop = some o → ∀ k, blkOf (m.b o) = some k → m.wr k ∧ k < m.w.heap.size := fun o ho k hk => by
    obtain ⟨ob0, h0⟩ := hdrop o ho
    exact (h.sim.obj o ob0 h0).2.2 k hk
  have hf : Fr m (m.grow w' y hsz hy) := by
    refine ⟨hsys.os, hsys.tape, hsys.output, hsz, fun k hk hw => hkeep k hk fun o ho e => hw (hwr o ho k e).1, fun k hk => ?_, fun k hk => ?_, fun k hk _ => .inl hk, fun o ho => by simp [Me.grow, setB]; omega, Nat.le_succ _⟩
    · rcases hk with hk | hk
      · exact .inl hk
      · rcases hfresh k hk with h1 | ⟨o, h1, h2⟩
        · exact .inr h1
        · exact .inl (hwr o h1 k h2).1
    · rcases hk with hk | hk
      · exact .inl hk
      · rcases hfresh k hk with h1 | ⟨o, h1, h2⟩
        · exact .inr h1
        · exact .inl (m.sub _ (hwr o h1 k h2).1)
  have hbn : (m.grow w' y hsz hy).b st.next = y := by simp [Me.grow, setB, hn]
  have hbo : ∀ o, o < st.next → (m.grow w' y hsz hy).b o = m.b o := fun o ho => hf.b o (by omega)
  refine ⟨⟨⟨by simp [Me.grow, hn], fun k hk => Rep.fr hf _ _ (by omega) (Nat.le_succ _) _ _ (h.sim.env k hk), fun o ob' ho => ?_, fun o o' a b h1 h2 h3 k hk => ?_⟩, h.fr.trans hf, h.low⟩, hf, hbn⟩
  · by_cases e : o = st.next
    · subst e
      simp only [lookO, beqT, Option.some.injEq] at ho
      subst ho
      rw [hbn]
      exact ⟨Nat.lt_succ_self _, hr, fun k hk => ⟨.inr hk, hy k hk⟩⟩
    · simp only [lookO, beqF e] at ho
      obtain ⟨ho1, ho2⟩ := hobjs o ob' ho
      obtain ⟨h1, h2, h3⟩ := h.sim.obj o ob' ho1
      rw [hbo o h1]
      refine ⟨Nat.lt_succ_of_lt h1, RepO.fr hf _ _ (by omega) (Nat.le_succ _) h2 fun k hk => ?_, fun k hk => ⟨.inl (h3 k hk).1, Nat.lt_of_lt_of_le (h3 k hk).2 hsz⟩⟩
      refine hkeep k (h3 k hk).2 fun o2 ho3 e2 => ?_
      obtain ⟨ob0, h0⟩ := hdrop o2 ho3
      have : o ≠ o2 := fun e3 => ho2 (e3 ▸ ho3)
      exact h.sim.apart o o2 ob' ob0 ho1 h0 this k hk e2
  · have far : ∀ o a, o ≠ st.next → lookO o ((st.next, ob) :: objs) = some a → ∀ k, blkOf ((m.grow w' y hsz hy).b o) = some k → blkOf y ≠ some k := by
      intro o a ho h1 k hk hk2
      simp only [lookO, beqF ho] at h1
      obtain ⟨h4, h5⟩ := hobjs o a h1
      obtain ⟨h6, _, h7⟩ := h.sim.obj o a h4
      rw [hbo o h6] at hk
      rcases hfresh k hk2 with h8 | ⟨o2, h8, h9⟩
      · have := (h7 k hk).2; omega
      · obtain ⟨ob0, h0⟩ := hdrop o2 h8
        exact h.sim.apart o o2 a ob0 h4 h0 (fun e3 => h5 (e3 ▸ h8)) k hk h9
    by_cases e : o = st.next
    · have e' : o' ≠ st.next := fun e2 => h3 (e.trans e2.symm)
      intro hk2
      subst e
      rw [hbn] at hk
      exact far o' b e' h2 k hk2 hk
    · by_cases e' : o' = st.next
      · subst e'; rw [hbn]; exact far o a e h1 k hk
      · simp only [lookO, beqF e] at h1
        simp only [lookO, beqF e'] at h2
        obtain ⟨h4, _⟩ := hobjs o a h1
        obtain ⟨h5, _⟩ := hobjs o' b h2
        rw [hbo o (h.sim.obj o a h4).1] at hk
        rw [hbo o' (h.sim.obj o' b h5).1]
        exact h.sim.apart o o' a b h4 h5 h3 k hk

/-- the memory in another world of at least as many blocks -/
def Me.on (m : Me) (w' : World) (hsz : m.w.heap.size ≤ w'.heap.size) : Me := { m with w := w', lt := fun k h => Nat.lt_of_lt_of_le (m.lt k h) hsz }

/-- one object is written -/
theorem Ok.write {org : Me} {st : St} {m : Me} {tm : Array Value} (h : Ok org st m tm) (w' : World) (o : Nat) (ob ob' : LO) (ho : lookO o st.objs = some ob)
    (hsys : SameSys m.w w') (hsz : m.w.heap.size ≤ w'.heap.size) (hkeep : ∀ k, k < m.w.heap.size → blkOf (m.b o) ≠ some k → w'.heap[k]? = m.w.heap[k]?)
    (hr : RepO (m.on w' hsz) st.next ob' (m.b o)) : Ok org (st.setO o ob') (m.on w' hsz) tm ∧ Fr m (m.on w' hsz) := by
  have hn := h.sim.n
  have ho3 := h.sim.obj o ob ho
  have hf : Fr m (m.on w' hsz) := ⟨hsys.os, hsys.tape, hsys.output, hsz, fun k hk hw => hkeep k hk fun e => hw (ho3.2.2 k e).1, fun k hk => .inl hk, fun k hk => .inl hk, fun k hk _ => hk, fun _ _ => rfl, Nat.le_refl _⟩
  refine ⟨⟨⟨hn, fun k hk => Rep.fr hf st.next st.next (by omega) (Nat.le_refl _) _ _ (h.sim.env k hk), fun o2 ob2 h2 => ?_, fun o2 o3 a b h2 h3 h4 k hk => ?_⟩, h.fr.trans hf, h.low⟩, hf⟩
  · by_cases e : o2 = o
    · subst e
      simp only [St.setO, lookO, beqT, Option.some.injEq] at h2
      subst h2
      exact ⟨ho3.1, hr, fun k hk => ⟨(ho3.2.2 k hk).1, Nat.lt_of_lt_of_le (ho3.2.2 k hk).2 hsz⟩⟩
    · simp only [St.setO, lookO, beqF e] at h2
      obtain ⟨h5, h6, h7⟩ := h.sim.obj o2 ob2 h2
      exact ⟨h5, RepO.fr hf st.next st.next (by omega) (Nat.le_refl _) h6 fun k hk => hkeep k (h7 k hk).2 fun e2 => h.sim.apart o2 o ob2 ob h2 ho e k hk e2, fun k hk => ⟨(h7 k hk).1, Nat.lt_of_lt_of_le (h7 k hk).2 hsz⟩⟩
  · have look : ∀ i x, lookO i (st.setO o ob').objs = some x → ∃ x', lookO i st.objs = some x' := by
      intro i x hx
      by_cases e : i = o
      · subst e; exact ⟨_, ho⟩
      · simp only [St.setO, lookO, beqF e] at hx; exact ⟨_, hx⟩
    obtain ⟨a', ha⟩ := look o2 a h2
    obtain ⟨b', hb⟩ := look o3 b h3
    exact h.sim.apart o2 o3 a' b' ha hb h4 k hk

/-- nothing of the frame's is touched: orders were drawn, memory was made that nobody names -/
theorem Ok.drew {org : Me} {st : St} {m : Me} {tm : Array Value} (h : Ok org st m tm) (w' : World) (hsys : SameSys m.w w') (hsz : m.w.heap.size ≤ w'.heap.size) (hkeep : ∀ k, k < m.w.heap.size → w'.heap[k]? = m.w.heap[k]?) : Ok org st (m.on w' hsz) tm ∧ Fr m (m.on w' hsz) := by
  have hf : Fr m (m.on w' hsz) := ⟨hsys.os, hsys.tape, hsys.output, hsz, fun k hk _ => hkeep k hk, fun k hk => .inl hk, fun k hk => .inl hk, fun k hk _ => hk, fun _ _ => rfl, Nat.le_refl _⟩
  exact ⟨h.later hf rfl (fun k _ hk => hkeep k hk) fun k hk => hk, hf⟩

theorem sameSys_alloc (w : World) (o : Obj) : SameSys w (w.alloc o) := ⟨rfl, rfl, rfl⟩
theorem alloc_old (w : World) (o : Obj) (k : Nat) (h : k < w.heap.size) : (w.alloc o).heap[k]? = w.heap[k]? := by
  show (w.heap.push o)[k]? = _
  rw [Array.getElem?_push, if_neg (by omega)]
theorem alloc_new (w : World) (o : Obj) : (w.alloc o).heap[w.heap.size]? = some o := by
  show (w.heap.push o)[w.heap.size]? = _
  simp

/-- a new box -/
theorem Ok.newBox {org : Me} {st : St} {m : Me} {tm : Array Value} (h : Ok org st m tm) (ty : TypeId) (cs : List LV) (ys : List Value) (hr : RepL m st.next cs ys) (h1 : ∀ u ∈ ys, u.oneCell' = true) :
    ∃ m', m'.w = m.w.alloc (.cells ys.toArray ty) ∧ Ok org (st.new (.box ty cs)) m' tm ∧ Rep m' (st.next + 1) (.lp st.next 0) (.pointer (some ⟨m.w.heap.size, 0, none⟩)) := by
  have hn := h.sim.n
  have hsz : m.w.heap.size ≤ (m.w.alloc (.cells ys.toArray ty)).heap.size := by simp
  have hy : ∀ k, blkOf (.pointer (some ⟨m.w.heap.size, 0, none⟩)) = some k → k < (m.w.alloc (.cells ys.toArray ty)).heap.size := by
    intro k hk
    simp [blkOf] at hk
    simp; omega
  have hf : Fr m (m.grow (m.w.alloc (.cells ys.toArray ty)) (.pointer (some ⟨m.w.heap.size, 0, none⟩)) hsz hy) := by
    refine ⟨rfl, rfl, rfl, hsz, fun k hk _ => alloc_old _ _ k hk, fun k hk => ?_, fun k hk => ?_, fun k hk _ => .inl hk, fun o ho => by simp [Me.grow, setB]; omega, Nat.le_succ _⟩
    all_goals
      rcases hk with hk | hk
      · exact .inl hk
      · right
        simp [blkOf] at hk
        omega
  have hg := h.grow (m.w.alloc (.cells ys.toArray ty)) (.pointer (some ⟨m.w.heap.size, 0, none⟩)) (.box ty cs) none st.objs (sameSys_alloc _ _) hsz hy (fun k hk _ => alloc_old _ _ k hk) (by simp) (fun k ob hk => ⟨hk, by simp⟩)
    (fun k hk => by simp [blkOf] at hk; left; omega) ⟨m.w.heap.size, ys, rfl, alloc_new _ _, RepL.fr hf _ _ (by omega) (Nat.le_succ _) cs ys hr, h1⟩
  exact ⟨_, rfl, hg.1, Nat.lt_succ_self _, _, hg.2.2, rfl⟩

end Go.Proofs.Aw
namespace Go.Proofs.Aw
open Go Go.RowKit

/-! ### cells -/
/-- a value's cells; what isn't known has none -/
def cellsA : LV → Option (List LV)
  | .agg cs => some cs
  | .tup _ => none
  | .any => none
  | .v x => match x.oneCell' with
    | true => some [.v x]
    | false => none
  | .ly g o x => match x.oneCell' with
    | true => some [.ly g o x]
    | false => none
  | x => some [x]

theorem cells_one {y : Value} (h : y.oneCell' = true) : y.cells = #[y] := by
  cases y <;> first | rfl | (simp [Value.oneCell'] at h)

theorem cellsA_sound {m : Me} {N : Nat} {x : LV} {y : Value} {cs : List LV} (h : cellsA x = some cs) (hr : Rep m N x y) : RepL m N cs y.cells.toList ∧ ∀ u ∈ y.cells.toList, u.oneCell' = true := by
  have one : ∀ {x : LV} {y : Value}, Rep m N x y → y.oneCell' = true → RepL m N [x] y.cells.toList ∧ ∀ u ∈ y.cells.toList, u.oneCell' = true := by
    intro x y hr h1
    rw [cells_one h1]
    exact ⟨⟨y, [], rfl, hr, rfl⟩, by simpa using h1⟩
  cases x with
  | any => simp [cellsA] at h
  | tup => simp [cellsA] at h
  | agg cs' =>
    simp only [cellsA, Option.some.injEq] at h
    subst h
    obtain ⟨ys, rfl, h1, h2⟩ := hr
    exact ⟨by simpa [Value.cells] using h1, by simpa [Value.cells] using h2⟩
  | v x =>
    simp only [cellsA] at h
    split at h
    · rename_i h1; injection h with h; subst h
      have : y = x := hr
      subst this
      exact one hr h1
    · cases h
  | ly g o x =>
    simp only [cellsA] at h
    split at h
    · rename_i h1; injection h with h; subst h
      have h2 := hr.1
      subst h2
      exact one hr h1
    · cases h
  | bs b => injection h with h; subst h; exact one hr (by rw [show y = .bool b from hr]; rfl)
  | str l => injection h with h; subst h; exact one hr (by rw [show y = strV l from hr]; rfl)
  | sl sz n g => injection h with h; subst h; exact one hr (by obtain ⟨A, cap, rfl, _⟩ := hr; rfl)
  | sp cs' off => injection h with h; subst h; exact one hr (by obtain ⟨b, o, ys, rfl, _⟩ := hr; rfl)
  | lp o off => injection h with h; subst h; exact one hr (by obtain ⟨_, b, _, rfl⟩ := hr; rfl)
  | el o sz i off => injection h with h; subst h; exact one hr (by obtain ⟨_, b, n, c, _, _, rfl⟩ := hr; rfl)
  | ls o n => injection h with h; subst h; exact one hr (by obtain ⟨_, h1, A, c, h2, _⟩ := hr; rw [h1, h2]; rfl)
  | as o off n => injection h with h; subst h; exact one hr (by obtain ⟨_, b, c, _, rfl⟩ := hr; rfl)
  | mp o => injection h with h; subst h; exact one hr (by obtain ⟨_, h1, b, h2⟩ := hr; rw [h1, h2]; rfl)
  | clo fn a b => injection h with h; subst h; exact one hr (by obtain ⟨_, _, rfl, _⟩ := hr; rfl)

/-- a place in memory: its cells from some begin, and how far behind that it is -/
def memA (st : St) (x : LV) (f : List LV → Nat → Prop) : Prop := match x with
  | .lp o off => match lookO o st.objs with
    | some (.box _ cs) => f cs off
    | _ => False
  | .sp cs off => f cs off
  | .el o sz i off => match lookO o st.objs with
    | some (.arr _ sz' n g) => match Nat.beq sz sz' with
      | true => f (g i) off
      | false => False
    | _ => False
  | _ => False

theorem own_block {w : World} {ty : TypeId} {sz n b c n' : Nat} {xs : List Value} (h : w.ownsRow 0 ty sz (.slice (some ⟨b, 0, none⟩) n' c) n xs) : n' = n ∧ ∃ cur, w.heap[b]? = some (.cells cur ty (0, 0)) ∧ n ≤ c ∧ c ≤ maxLen ∧ cur.size = c * sz ∧ cur.toList.take (n * sz) = xs := by
  rcases h.2 with ⟨h1, _⟩ | ⟨g, cap, cur, h1, h2, h3, h4, h5, h6, h7⟩
  · cases h1
  · injection h1 with h8 h9 h10
    injection h8 with h8
    injection h8 with h8
    subst h8; subst h9; subst h10
    exact ⟨rfl, cur, h3, h4, h5, h6, h7⟩

theorem cellsAt_block {w : World} {b : Nat} {ys : List Value} {ty : TypeId} (h : w.heap[b]? = some (.cells ys.toArray ty (0, 0))) (h1 : ∀ u ∈ ys, u.oneCell' = true) : cellsAt w b 0 ys := by
  intro j y hy
  refine ⟨?_, h1 y (List.mem_of_getElem? hy)⟩
  simp [World.cell?, h]
  exact hy

theorem cellsAt_own {w : World} {b : Nat} {cur : Array Value} {ty : TypeId} {sz n i : Nat} {ys xs : List Value} (h : w.heap[b]? = some (.cells cur ty (0, 0))) (hx : cur.toList.take (n * sz) = xs) (h1 : ∀ u ∈ xs, u.oneCell' = true) (hi : i < n) (hy : (xs.drop (i * sz)).take sz = ys) : cellsAt w b (i * sz) ys := by
  intro j y hj
  have e : xs[i * sz + j]? = some y ∧ j < sz := by
    rw [← hy, List.getElem?_take] at hj
    split at hj
    · rename_i hlt; rw [List.getElem?_drop] at hj; exact ⟨hj, hlt⟩
    · cases hj
  obtain ⟨e1, e2⟩ := e
  refine ⟨?_, h1 y (List.mem_of_getElem? e1)⟩
  rw [← hx, List.getElem?_take] at e1
  split at e1
  · simp [World.cell?, h]
    simpa using e1
  · cases e1

theorem memA_sound {st : St} {m : Me} {tm : Array Value} (hs : Sim st m tm) {x : LV} {f : List LV → Nat → Prop} {y : Value} (h : memA st x f) (hr : Rep m st.next x y) :
    ∃ b o cs off ys, f cs off ∧ y = .pointer (some ⟨b, o + off, none⟩) ∧ RepL m st.next cs ys ∧ cellsAt m.w b o ys := by
  cases x with
  | lp o off =>
    simp only [memA] at h
    split at h
    · rename_i ty cs ho
      obtain ⟨_, ⟨b, ys, h2, h3, h4, h5⟩, _⟩ := hs.obj o _ ho
      obtain ⟨_, b', h6, rfl⟩ := hr
      rw [h2] at h6
      injection h6 with h6; injection h6 with h6; injection h6 with h6
      subst h6
      exact ⟨b, 0, cs, off, ys, h, by simp, h4, cellsAt_block h3 h5⟩
    · exact h.elim
  | sp cs off =>
    obtain ⟨b, o, ys, rfl, h1, h2, h3, h4⟩ := hr
    exact ⟨b, o, cs, off, ys, h, rfl, h3.up (Nat.zero_le _) (Nat.zero_le _), h4⟩
  | el o sz i off =>
    simp only [memA] at h
    split at h
    · rename_i ty sz' n g ho
      split at h
      · rename_i he
        have he := Nat.eq_of_beq_eq_true he
        subst he
        obtain ⟨_, ⟨xs, h2, h3, h4⟩, _⟩ := hs.obj o _ ho
        obtain ⟨_, b, n', c, h5, h6, rfl⟩ := hr
        rw [h5] at h2
        obtain ⟨rfl, cur, h7, h8, h9, h10, h11⟩ := own_block h2
        obtain ⟨ys, h12, h13, h14⟩ := h4 i h6
        exact ⟨b, i * sz, g i, off, ys, h, rfl, h12.up (Nat.zero_le _) (Nat.zero_le _), cellsAt_own h7 h11 h3 h6 h14⟩
      · exact h.elim
    · exact h.elim
  | _ => exact h.elim

/-- of a row of cells the value at a place -/
def loadK (ti : TI) (cs : List LV) (off : Nat) (k : LV → Prop) : Prop := match ti.k.agg with
  | true => match Nat.ble (off + ti.size) cs.length with
    | true => k (.agg ((cs.drop off).take ti.size))
    | false => False
  | false => match nth cs off with
    | some x => k x
    | none => False

theorem run_typeInfo {P : Program} {t : TypeId} {i : TypeInfo} (h : P.info? t = some i) (w : World) : (typeInfo t).run P w = .ok i w := by
  simp [typeInfo, h]
theorem run_sizeOf {P : Program} {t : TypeId} {ti : TI} (h : ti.ok P t) (w : World) : (sizeOf t).run P w = .ok ti.size w := by
  obtain ⟨i, z, h1, h2, _⟩ := h.i
  simp [sizeOf, run_typeInfo h1, h2]
theorem run_isAgg {P : Program} {t : TypeId} {ti : TI} (h : ti.ok P t) (w : World) : (isAgg t).run P w = .ok ti.k.agg w := by
  obtain ⟨d, h1, h2⟩ := h.d
  simp only [isAgg, Sem.run_bind, run_underlying h1, Result.andThen_ok]
  rw [← h2]
  cases d <;> rfl

theorem add_at (b o j : Nat) : (⟨b, o, none⟩ : Addr).add j = ⟨b, o + j, none⟩ := by unfold Addr.add; split <;> simp_all

theorem run_loadVar_at {P : Program} {t : TypeId} {ti : TI} (ht : ti.ok P t) {w : World} {b o off : Nat} {ys : List Value} (hc : cellsAt w b o ys) {m : Me} {N : Nat} {cs : List LV} (hr : RepL m N cs ys) {k : LV → Prop} (h : loadK ti cs off k) :
    ∃ x y, k x ∧ Rep m N x y ∧ (loadVar t ⟨b, o + off, none⟩).run P w = .ok y w := by
  unfold loadK at h
  split at h
  · rename_i ha
    split at h
    · rename_i hl
      rw [Nat.ble_eq] at hl
      have hlen := hr.length
      refine ⟨_, .agg ((ys.drop off).take ti.size).toArray, h, ⟨_, rfl, (hr.drop off).take _, fun u hu => ?_⟩, ?_⟩
      · obtain ⟨j, hj⟩ := List.mem_iff_getElem?.1 (List.mem_of_mem_drop (List.mem_of_mem_take hu))
        exact (hc j u hj).2
      · have e : ((ys.drop off).take ti.size).length = ti.size := by simp; omega
        have hl2 := run_loadCells_list (P := P) w ⟨b, o + off, none⟩ ((ys.drop off).take ti.size) (fun j v hv => by
          rw [add_at]
          rw [List.getElem?_take] at hv
          split at hv
          · rw [List.getElem?_drop] at hv
            rw [Nat.add_assoc]
            exact (hc _ v hv).1
          · cases hv)
        rw [e] at hl2
        simp only [loadVar, Sem.run_bind, run_isAgg ht, Result.andThen_ok, ha, if_true, run_sizeOf ht, hl2]
        simp
    · exact h.elim
  · rename_i ha
    split at h
    · rename_i x hx
      rw [nth_eq] at hx
      obtain ⟨y, hy, h1⟩ := hr.get off x hx
      refine ⟨x, y, h, h1, ?_⟩
      simp only [loadVar, Sem.run_bind, run_isAgg ht, Result.andThen_ok, ha, Bool.false_eq_true, if_false, run_load, (hc off y hy).1]
    · exact h.elim

theorem Sem.loadAt {P : Program} {t : TypeId} {w : World} {a : Addr} : (Instr.loadAt t (.pointer (some a))).run P w = (loadVar t a).run P w := by
  simp [Instr.loadAt, Instr.sureAddr]

def writeL (cs : List LV) (off : Nat) (xs : List LV) : List LV := cs.take off ++ (xs ++ cs.drop (off + xs.length))

end Go.Proofs.Aw
