/- A PART OF THE PROOF: an abstract run of the loaded code over value trees, and the functions walked by it. No condition of its own. -/
import Derived.Test.YtanmknmlphkeaaaDoorA1
import Derived.Deep.LoopGhost
namespace Go.Proofs.Aw
open Go Go.RowKit

/-! ### states -/
inductive LO where
  | box (ty : TypeId) (cs : List LV)
  | arr (ty sz n : Nat) (g : Nat → List LV)

structure St where
  env : List (Nat × LV)
  objs : List (Nat × LO)
  next : Nat
  low : Nat

def look (k : Nat) : List (Nat × LV) → LV
  | [] => .any
  | (j, x) :: r => match Nat.beq k j with
    | true => x
    | false => look k r
def lookO (k : Nat) : List (Nat × LO) → Option LO
  | [] => none
  | (j, x) :: r => match Nat.beq k j with
    | true => some x
    | false => lookO k r

def St.put (st : St) (d : Option Nat) (x : LV) : St := match d with
  | some d => match st with
    | ⟨e, o, n, l⟩ => ⟨(d, x) :: e, o, n, l⟩
  | none => st
def St.new (st : St) (ob : LO) : St := match st with
  | ⟨e, o, n, l⟩ => ⟨e, (n, ob) :: o, n + 1, l⟩
def St.setO (st : St) (o : Nat) (ob : LO) : St := match st with
  | ⟨e, os, n, l⟩ => ⟨e, (o, ob) :: os, n, l⟩
/-- what is reckoned, reckoned at once -/
def frcS (st : St) (k : St → Prop) : Prop := match st with
  | ⟨e, o, n, l⟩ => k ⟨e, o, n, l⟩
def frc (x : LV) (k : LV → Prop) : Prop := match x with
  | .any => k .any
  | .v x => k (.v x)
  | .bs b => k (.bs b)
  | .str l => k (.str l)
  | .agg cs => k (.agg cs)
  | .tup cs => k (.tup cs)
  | .sl sz n g => k (.sl sz n g)
  | .sp cs off => k (.sp cs off)
  | .lp o off => k (.lp o off)
  | .el o sz i off => k (.el o sz i off)
  | .ls o n => k (.ls o n)
  | .clo f a b => k (.clo f a b)
def frcC : List LV → (List LV → Prop) → Prop
  | [], k => k []
  | x :: r, k => frc x fun x => frcC r fun r => k (x :: r)
theorem frcS_eq (st : St) (k : St → Prop) : frcS st k = k st := rfl
theorem frc_eq (x : LV) (k : LV → Prop) : frc x k = k x := by cases x <;> rfl

theorem frcC_eq : ∀ (l : List LV) (k : List LV → Prop), frcC l k = k l
  | [], k => rfl
  | x :: r, k => by simp only [frcC, frc_eq]; rw [frcC_eq r]

theorem beqT (i : Nat) : Nat.beq i i = true := Nat.beq_refl i
theorem beqF {i j : Nat} (h : i ≠ j) : Nat.beq i j = false := by
  cases e : Nat.beq i j with
  | true => exact absurd (Nat.eq_of_beq_eq_true e) h
  | false => rfl

def blkOf : Value → Option Nat
  | .pointer (some a) => some a.block
  | .slice (some a) _ _ => some a.block
  | _ => none

def RepO (m : Me) (N : Nat) : LO → Value → Prop
  | .box ty cs, y => ∃ b ys, y = .pointer (some ⟨b, 0, none⟩) ∧ m.w.heap[b]? = some (.cells ys.toArray ty (0, 0)) ∧ RepL m N cs ys ∧ ∀ u ∈ ys, u.oneCell' = true
  | .arr ty sz n g, y => ∃ xs, m.w.ownsRow 0 ty sz y n xs ∧ (∀ u ∈ xs, u.oneCell' = true) ∧ ∀ i, i < n → ∃ ys, RepL m 0 (g i) ys ∧ ys.length = sz ∧ (xs.drop (i * sz)).take sz = ys

structure Sim (st : St) (m : Me) (tm : Array Value) : Prop where
  n : m.n = st.next
  env : ∀ k (h : k < tm.size), Rep m st.next (look k st.env) tm[k]
  obj : ∀ o ob, lookO o st.objs = some ob → o < st.next ∧ RepO m st.next ob (m.b o) ∧ ∀ k, blkOf (m.b o) = some k → m.wr k ∧ k < m.w.heap.size
  apart : ∀ o o' ob ob', lookO o st.objs = some ob → lookO o' st.objs = some ob' → o ≠ o' → ∀ k, blkOf (m.b o) = some k → blkOf (m.b o') ≠ some k

structure Ok (org : Me) (st : St) (m : Me) (tm : Array Value) : Prop where
  sim : Sim st m tm
  fr : Fr org m
  low : st.low = org.n

inductive AX where
  | normal
  | exit (id : Nat)
  | ret
  | pan (x : Value)

def AX.to : AX → Exit
  | .normal => .normal
  | .exit id => .exit id
  | .ret => .ret
  | .pan x => .panic [{ v := x, recovered := false }]

/-- what stands behind a piece of code -/
def Post (org : Me) (ds : List Deferred) (sz : Nat) (K : AX → St → Prop) (e : Exit) (a : Act) (w : World) : Prop :=
  a.defers = ds ∧ a.tmps.size = sz ∧ ∃ x st m, e = AX.to x ∧ K x st ∧ m.w = w ∧ Ok org st m a.tmps

def AW (P : Program) (org : Me) (ds : List Deferred) (sz : Nat) (c : Code) (K : AX → St → Prop) (st : St) : Prop :=
  ∀ m tm, tm.size = sz → Ok org st m tm → c.wp P (Post org ds sz K) ⟨tm, ds⟩ m.w

theorem Post.mono {org : Me} {ds : List Deferred} {sz : Nat} {K K' : AX → St → Prop} (h : ∀ x st, K x st → K' x st) {e : Exit} {a : Act} {w : World} (hp : Post org ds sz K e a w) : Post org ds sz K' e a w := by
  obtain ⟨h1, h2, x, st, m, h3, h4, h5⟩ := hp
  exact ⟨h1, h2, x, st, m, h3, h _ _ h4, h5⟩

theorem AW.mono {P : Program} {org : Me} {ds : List Deferred} {sz : Nat} {c : Code} {K K' : AX → St → Prop} {st : St} (h : AW P org ds sz c K st) (hk : ∀ x st, K x st → K' x st) : AW P org ds sz c K' st :=
  fun m tm h1 h2 => Code.wp_mono (fun _ _ _ hp => hp.mono hk) (h m tm h1 h2)

def seqK (K : AX → St → Prop) (next : St → Prop) : AX → St → Prop
  | .normal, st => next st
  | .exit id, st => K (.exit id) st
  | .ret, st => K .ret st
  | .pan x, st => K (.pan x) st

section
variable {P : Program} {org : Me} {ds : List Deferred} {sz : Nat} {K : AX → St → Prop} {st : St}

theorem AW.seq {a b : Code} (h : AW P org ds sz a (seqK K (AW P org ds sz b K)) st) : AW P org ds sz (.seq a b) K st := by
  intro m tm h1 h2
  refine wp_seq (Code.wp_mono ?_ (h m tm h1 h2))
  rintro e ⟨tm', ds'⟩ w ⟨rfl, h4, x, st', m', rfl, h5, rfl, h6⟩
  cases x with
  | normal => exact h5 m' tm' h4 h6
  | exit id => exact ⟨rfl, h4, _, st', m', rfl, h5, rfl, h6⟩
  | ret => exact ⟨rfl, h4, _, st', m', rfl, h5, rfl, h6⟩
  | pan x => exact ⟨rfl, h4, _, st', m', rfl, h5, rfl, h6⟩

theorem AW.skip (h : K .normal st) : AW P org ds sz .skip K st :=
  fun m tm h1 h2 => wp_skip ⟨rfl, h1, .normal, st, m, rfl, h, rfl, h2⟩
theorem AW.exit {id : Nat} (h : K (.exit id) st) : AW P org ds sz (.exit id) K st :=
  fun m tm h1 h2 => wp_exit ⟨rfl, h1, .exit id, st, m, rfl, h, rfl, h2⟩
theorem AW.ret (h : K .ret st) : AW P org ds sz .ret K st :=
  fun m tm h1 h2 => wp_ret ⟨rfl, h1, .ret, st, m, rfl, h, rfl, h2⟩

def blockK (id : Nat) (K : AX → St → Prop) : AX → St → Prop
  | .exit i, st => match Nat.beq i id with
    | true => K .normal st
    | false => K (.exit i) st
  | .normal, st => K .normal st
  | .ret, st => K .ret st
  | .pan x, st => K (.pan x) st

theorem AW.block {id : Nat} {c : Code} (h : AW P org ds sz c (blockK id K) st) : AW P org ds sz (.block id c) K st := by
  intro m tm h1 h2
  refine wp_block (Code.wp_mono ?_ (h m tm h1 h2))
  rintro e ⟨tm', ds'⟩ w ⟨rfl, h4, x, st', m', rfl, h5, rfl, h6⟩
  cases x with
  | normal => exact ⟨rfl, h4, _, st', m', rfl, h5, rfl, h6⟩
  | exit i =>
    simp only [blockK] at h5
    simp only [AX.to, Exit.inBlock]
    by_cases hi : i = id
    · subst hi; simp at h5; rw [if_pos rfl]; exact ⟨rfl, h4, _, st', m', rfl, h5, rfl, h6⟩
    · have : Nat.beq i id = false := beqF hi
      rw [this] at h5; rw [if_neg hi]; exact ⟨rfl, h4, .exit i, st', m', rfl, h5, rfl, h6⟩
  | ret => exact ⟨rfl, h4, _, st', m', rfl, h5, rfl, h6⟩
  | pan x => exact ⟨rfl, h4, _, st', m', rfl, h5, rfl, h6⟩

end
end Go.Proofs.Aw
