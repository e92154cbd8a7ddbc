/- A PART OF THE PROOF: an abstract run of the loaded code over value trees, and the functions walked by it. No condition of its own. -/
import Derived.Test.YtanmknmlphkeaaaGreatDoorGA17
import Derived.Orders
namespace Go.Proofs.Aw
open Go Go.RowKit

/-! ### a region whose order is open -/
/-- which operations must stand ahead of each: bit by bit -/
def maskOf (ms : List Nat) (o : Oper) : Nat := o.after.toList.foldl (fun s e => if Region.binds .any e then s ||| (2 ^ e.on ||| (nth ms e.on).getD 0) else s) 0

/-- must operation j stand ahead of i? -/
def nthN : List Nat → Nat → Nat
  | [], _ => 0
  | x :: _, 0 => x
  | _ :: r, n + 1 => nthN r n
theorem nthN_eq : ∀ (l : List Nat) (i : Nat), nthN l i = (nth l i).getD 0
  | [], _ => rfl
  | _ :: _, 0 => rfl
  | _ :: r, n + 1 => nthN_eq r n
def pre (ms : List Nat) (i j : Nat) : Bool := Nat.beq (Nat.land (Nat.shiftRight (nthN ms i) j) 1) 1
theorem pre_eq (ms : List Nat) (i j : Nat) : pre ms i j = ((nth ms i).getD 0).testBit j := by
  unfold pre
  rw [nthN_eq]
  generalize (nth ms i).getD 0 = m
  have h : Nat.land (Nat.shiftRight m j) 1 = (m >>> j) % 2 := by
    show (m >>> j) &&& 1 = _
    exact Nat.and_one_is_mod _
  rw [h, Nat.testBit, Nat.and_comm, Nat.and_one_is_mod]
  rcases Nat.mod_two_eq_zero_or_one (m >>> j) with h | h <;> rw [h] <;> rfl

def slotsOf (ops : List Oper) (o : Oper) : List Nat := (o.op.operands.toList.filterMap fun | .tmp t => some t | _ => none) ++ (match o.guard with
  | some (g, _) => match nth ops g with
    | some og => og.dst.toList
    | none => []
  | none => [])

def envG (f : Nat → Nat → Option LV) (base : List (Nat × LV)) : Nat → List Oper → List (Nat × LV)
  | _, [] => base
  | j, o :: r => match o.dst with
    | none => envG f base (j + 1) r
    | some d => match f j d with
      | some x => (d, x) :: envG f base (j + 1) r
      | none => envG f base (j + 1) r
/-- the look of the frame to operation i, once all that must stand ahead of it has been done -/
def fAt (ms : List Nat) (i : Nat) (vals : List LV) (j _d : Nat) : Option LV := match pre ms i j with
  | true => some ((nth vals j).getD .any)
  | false => match Nat.beq i j || pre ms j i with
    | true => none
    | false => some .any
def fEnd (vals : List LV) (j _d : Nat) : Option LV := some ((nth vals j).getD .any)
def fL (listed : Array Bool) (vals : List LV) (j _d : Nat) : Option LV := if listed.getD j false then some ((nth vals j).getD .any) else none

/-- the objects are so -/
def hpIs (st : St) (s : List (Nat × LO) × Nat) (p : Prop) : Prop := match st with
  | ⟨_, o, n, _⟩ => p ∧ (o, n) = s
theorem hpIs_eq (st : St) (s : List (Nat × LO) × Nat) (p : Prop) : hpIs st s p = (p ∧ (st.objs, st.next) = s) := rfl
/-- one operation gives v and leaves the objects so -/
def stepR (P : Program) (T : Tab) (o : Oper) (v : LV) (s : List (Nat × LO) × Nat) (st : St) : Prop :=
  opA P T o (fun x st' => frc x fun x => hpIs st' s (LV.le x v)) (fun _ _ => False) st
def stepG (P : Program) (T : Tab) (ops : List Oper) (sz : Nat) (o : Oper) (v : LV) (s : List (Nat × LO) × Nat) (st : St) : Prop :=
  guardA ops sz o (stepR P T o v s) (fun st' => hpIs st' s (LV.le (.tup []) v)) st

def allI {α : Type} (f : Nat → α → Bool) : Nat → List α → Bool
  | _, [] => true
  | i, x :: r => f i x && allI f (i + 1) r
theorem allI_get {α : Type} {f : Nat → α → Bool} : ∀ {l : List α} {k : Nat}, allI f k l = true → ∀ i x, nth l i = some x → f (k + i) x = true
  | [], _, _, i, x, h => by simp [nth] at h
  | y :: r, k, h, 0, x, hx => by
    simp only [allI, Bool.and_eq_true] at h
    simp only [nth, Option.some.injEq] at hx
    subst hx
    exact h.1
  | y :: r, k, h, i + 1, x, hx => by
    simp only [allI, Bool.and_eq_true] at h
    have := allI_get h.2 i x hx
    rwa [Nat.add_assoc, Nat.add_comm 1 i] at this

def edgeB (i : Nat) (e : Edge) : Bool := !Region.binds .any e || Nat.blt e.on i
def pairB (ops : List Oper) (ms : List Nat) (i : Nat) (o : Oper) (j : Nat) (o' : Oper) : Bool :=
  Nat.beq i j || ((match o.dst, o'.dst with
    | some d, some d' => !Nat.beq d d'
    | _, _ => true) && (match o'.dst with
    | some t => !((slotsOf ops o).any (Nat.beq t)) || (pre ms i j || pre ms j i)
    | none => true))
def opB (ops : List Oper) (ms : List Nat) (i : Nat) (o : Oper) : Bool :=
  (match nth ms i with
    | some m => Nat.beq m (maskOf ms o)
    | none => false) && (o.after.toList.all (edgeB i) && (allI (pairB ops ms i o) 0 ops && (match o.guard with
    | some (g, _) => pre ms i g
    | none => true)))
def chainB (ms : List Nat) : List Nat → Bool
  | [] => true
  | a :: r => r.all (fun b => Nat.blt a b && pre ms b a) && chainB ms r
/-- what the edges must be like for this rule; closed -/
def drawB (ops : List Oper) (ms ch : List Nat) : Bool := Nat.beq ms.length ops.length && (allI (opB ops ms) 0 ops && (chainB ms ch && ch.all (fun c => Nat.blt c ops.length)))

theorem maskOf_bit {ms : List Nat} {o : Oper} {j : Nat} : (maskOf ms o).testBit j = true ↔ ∃ e ∈ o.after.toList, Region.binds .any e = true ∧ (e.on = j ∨ ((nth ms e.on).getD 0).testBit j = true) := by
  unfold maskOf
  have key : ∀ (l : List Edge) (s : Nat), (l.foldl (fun s e => if Region.binds .any e then s ||| (2 ^ e.on ||| (nth ms e.on).getD 0) else s) s).testBit j = true ↔ s.testBit j = true ∨ ∃ e ∈ l, Region.binds .any e = true ∧ (e.on = j ∨ ((nth ms e.on).getD 0).testBit j = true) := by
    intro l
    induction l with
    | nil => intro s; simp
    | cons e r ih =>
      intro s
      rw [List.foldl_cons, ih]
      by_cases hb : Region.binds .any e = true
      · simp only [hb, if_true, Nat.testBit_or, Bool.or_eq_true, Nat.testBit_two_pow, decide_eq_true_eq, List.mem_cons]
        constructor
        · rintro (⟨h | h | h⟩ | ⟨e', h1, h2⟩)
          · exact .inl h
          · exact .inr ⟨e, .inl rfl, hb, .inl h⟩
          · exact .inr ⟨e, .inl rfl, hb, .inr h⟩
          · exact .inr ⟨e', .inr h1, h2⟩
        · rintro (h | ⟨e', rfl | h1, h2, h3⟩)
          · exact .inl (.inl h)
          · rcases h3 with h3 | h3
            · exact .inl (.inr (.inl h3))
            · exact .inl (.inr (.inr h3))
          · exact .inr ⟨e', h1, h2, h3⟩
      · simp only [hb, Bool.false_eq_true, if_false, List.mem_cons]
        constructor
        · rintro (h | ⟨e', h1, h2⟩)
          · exact .inl h
          · exact .inr ⟨e', .inr h1, h2⟩
        · rintro (h | ⟨e', rfl | h1, h2, h3⟩)
          · exact .inl h
          · exact absurd h2 hb
          · exact .inr ⟨e', h1, h2, h3⟩
  rw [key]
  simp

structure DrawOk (ops : List Oper) (ms ch : List Nat) : Prop where
  len : ms.length = ops.length
  pre_iff : ∀ i o, nth ops i = some o → ∀ j, pre ms i j = true ↔ ∃ e ∈ o.after.toList, Region.binds .any e = true ∧ (e.on = j ∨ pre ms e.on j = true)
  back : ∀ i o, nth ops i = some o → ∀ e ∈ o.after.toList, Region.binds .any e = true → e.on < i
  dsts : ∀ i j oi oj d, nth ops i = some oi → nth ops j = some oj → oi.dst = some d → oj.dst = some d → i = j
  slots : ∀ i oi, nth ops i = some oi → ∀ t ∈ slotsOf ops oi, ∀ j oj, nth ops j = some oj → oj.dst = some t → i = j ∨ pre ms i j = true ∨ pre ms j i = true
  guards : ∀ i o g w, nth ops i = some o → o.guard = some (g, w) → pre ms i g = true
  chain : chainB ms ch = true
  inr : ∀ c ∈ ch, c < ops.length

theorem DrawOk.of {ops : List Oper} {ms ch : List Nat} (h : drawB ops ms ch = true) : DrawOk ops ms ch := by
  simp only [drawB, Bool.and_eq_true] at h
  obtain ⟨h1, h2, h3, h4⟩ := h
  have hop : ∀ i o, nth ops i = some o → opB ops ms i o = true := fun i o hi => by have := allI_get h2 i o hi; rwa [Nat.zero_add] at this
  have hpair : ∀ i o j o', nth ops i = some o → nth ops j = some o' → pairB ops ms i o j o' = true := fun i o j o' hi hj => by
    have := hop i o hi
    simp only [opB, Bool.and_eq_true] at this
    have := allI_get this.2.2.1 j o' hj
    rwa [Nat.zero_add] at this
  refine ⟨Nat.eq_of_beq_eq_true h1, fun i o hi j => ?_, fun i o hi e he hb => ?_, fun i j oi oj d hi hj hd hd' => ?_, fun i oi hi t ht j oj hj hd => ?_, fun i o g w hi hg => ?_, h3, fun c hc => ?_⟩
  · have := hop i o hi
    simp only [opB, Bool.and_eq_true] at this
    have h5 := this.1
    split at h5
    · rename_i m hm
      have h6 := Nat.eq_of_beq_eq_true h5
      have hmb := @maskOf_bit ms o j
      simp only [pre_eq]
      rw [hm]
      subst h6
      exact hmb
    · cases h5
  · have := hop i o hi
    simp only [opB, Bool.and_eq_true] at this
    have := List.all_eq_true.1 this.2.1 e he
    simp only [edgeB, hb, Bool.not_true, Bool.false_or, Nat.blt_eq] at this
    exact this
  · have := hpair i oi j oj hi hj
    simp only [pairB, hd, hd', Bool.or_eq_true, Bool.and_eq_true, beqT, Bool.not_true, Bool.false_eq_true, false_and, or_false] at this
    exact Nat.eq_of_beq_eq_true this
  · have := hpair i oi j oj hi hj
    simp only [pairB, hd, Bool.or_eq_true, Bool.and_eq_true] at this
    rcases this with h | ⟨_, h | h | h⟩
    · exact .inl (Nat.eq_of_beq_eq_true h)
    · exfalso
      simp only [Bool.not_eq_true'] at h
      have h7 : (slotsOf ops oi).any (Nat.beq t) = true := List.any_eq_true.2 ⟨t, ht, beqT t⟩
      rw [h7] at h; cases h
    · exact .inr (.inl h)
    · exact .inr (.inr h)
  · have := hop i o hi
    simp only [opB, Bool.and_eq_true, hg] at this
    exact this.2.2.2
  · have := List.all_eq_true.1 h4 c hc
    simpa [Nat.blt_eq] using this

theorem look_envG_none {f : Nat → Nat → Option LV} {base : List (Nat × LV)} {k : Nat} : ∀ {ops : List Oper} {j0 : Nat}, (∀ j o, nth ops j = some o → o.dst ≠ some k) → look k (envG f base j0 ops) = look k base
  | [], _, _ => rfl
  | o :: r, j0, h => by
    have h0 := h 0 o rfl
    have ih := look_envG_none (f := f) (base := base) (ops := r) (j0 := j0 + 1) fun j o' hj => h (j + 1) o' hj
    simp only [envG]
    split
    · exact ih
    · rename_i d hd
      have hne : k ≠ d := fun e => h0 (by rw [hd, e])
      split
      · simp only [look, beqF hne]; exact ih
      · exact ih

theorem look_envG_some {f : Nat → Nat → Option LV} {base : List (Nat × LV)} {k : Nat} : ∀ {ops : List Oper} {j0 j : Nat} {o : Oper}, nth ops j = some o → o.dst = some k → (∀ j' o', nth ops j' = some o' → o'.dst = some k → j' = j) → look k (envG f base j0 ops) = (f (j0 + j) k).getD (look k base)
  | [], _, j, o, h, _, _ => by simp [nth] at h
  | o0 :: r, j0, 0, o, h, hd, hu => by
    simp only [nth, Option.some.injEq] at h
    subst h
    simp only [envG, hd, Nat.add_zero]
    have hr : look k (envG f base (j0 + 1) r) = look k base := look_envG_none fun j o' hj hd' => by
      have := hu (j + 1) o' hj hd'
      omega
    cases hf : f j0 k with
    | none => simp [hr]
    | some x => simp [look]
  | o0 :: r, j0, j + 1, o, h, hd, hu => by
    have h0 : o0.dst ≠ some k := fun e => by have := hu 0 o0 rfl e; omega
    have ih := look_envG_some (f := f) (base := base) (ops := r) (j0 := j0 + 1) (j := j) (o := o) h hd fun j' o' hj hd' => by
      have := hu (j' + 1) o' hj hd'
      omega
    have e : j0 + 1 + j = j0 + (j + 1) := by omega
    rw [e] at ih
    simp only [envG]
    split
    · exact ih
    · rename_i d hd2
      have hne : k ≠ d := fun e => h0 (by rw [hd2, e])
      split
      · simp only [look, beqF hne]; exact ih
      · exact ih

theorem guardA_cases {org : Me} {st : St} {m : Me} {tm : Array Value} {sz : Nat} {ops : List Oper} {o : Oper} {yes no : St → Prop} (h : Ok org st m tm) (hsz : tm.size = sz) (hg : guardA ops sz o yes no st) :
    (Region.wanted o (yielded ops.toArray tm) = true ∧ ∃ st', Ok org st' m tm ∧ st'.objs = st.objs ∧ st'.next = st.next ∧ yes st') ∨ (Region.wanted o (yielded ops.toArray tm) = false ∧ ∃ st', Ok org st' m tm ∧ st'.objs = st.objs ∧ st'.next = st.next ∧ no st') := by
  unfold guardA at hg
  split at hg
  · rename_i e
    exact .inl ⟨by simp [Region.wanted, e], st, h, rfl, rfl, hg⟩
  · rename_i j want e
    split at hg
    · exact hg.elim
    rename_i oj hj
    split at hg
    · exact hg.elim
    rename_i d hd
    split at hg
    · exact hg.elim
    rename_i hs
    rw [Nat.blt_eq] at hs
    have hd2 : d < tm.size := by rw [hsz]; exact hs
    have env := h.sim.env d hd2
    have put : ∀ c : Bool, tm[d] = .bool c → Ok org (st.put (some d) (.v (.bool c))) m tm := fun c hc => by
      refine ⟨⟨h.sim.n, fun k hk => ?_, h.sim.obj, h.sim.apart⟩, h.fr, h.low⟩
      simp only [St.put, look]
      by_cases e : k = d
      · subst e; rw [beqT]; exact hc
      · rw [beqF e]; exact h.sim.env k hk
    split at hg
    · rename_i hl
      rw [hl] at env
      have w := wanted_at e hj hd hd2 env
      cases want
      · exact .inr ⟨w, st, h, rfl, rfl, hg⟩
      · exact .inl ⟨w, st, h, rfl, rfl, hg⟩
    · rename_i hl
      rw [hl] at env
      have w := wanted_at e hj hd hd2 env
      cases want
      · exact .inl ⟨w, st, h, rfl, rfl, hg⟩
      · exact .inr ⟨w, st, h, rfl, rfl, hg⟩
    · rename_i b hl
      rw [hl] at env
      have w := wanted_at e hj hd hd2 env
      cases want <;> cases b
      · exact .inl ⟨w, _, put _ env, rfl, rfl, hg.2 rfl⟩
      · exact .inr ⟨w, _, put _ env, rfl, rfl, hg.1 rfl⟩
      · exact .inr ⟨w, _, put _ env, rfl, rfl, hg.2 rfl⟩
      · exact .inl ⟨w, _, put _ env, rfl, rfl, hg.1 rfl⟩
    · rename_i hl
      rw [hl] at env
      obtain ⟨ys, hy, h3⟩ := env
      have h3 : ys = [] := h3
      subst h3
      exact .inr ⟨wanted_undef e hj hd hd2 hy, st, h, rfl, rfl, hg⟩
    · exact hg.elim


def lo (ms ch : List Nat) (i : Nat) : Nat := ch.countP (pre ms i)
def hi (ms ch : List Nat) (i : Nat) : Nat := ch.countP (fun c => !(Nat.beq i c || pre ms c i))
def isCh (ch : List Nat) (i : Nat) : Bool := ch.any (Nat.beq i)

abbrev Hp := List (Nat × LO) × Nat
def stAt (ops : List Oper) (ms : List Nat) (base : List (Nat × LV)) (vals : List LV) (i : Nat) (s : Hp) : St := ⟨envG (fAt ms i vals) base 0 ops, s.1, s.2, s.2⟩

structure DrawObs (P : Program) (T : Tab) (sz : Nat) (ops : List Oper) (ms ch : List Nat) (st : St) (vals : List LV) (hps : List Hp) : Prop where
  vlen : vals.length = ops.length
  hlen : hps.length = ch.length + 1
  h0 : nth hps 0 = some (st.objs, st.next)
  ob : ∀ i o v, nth ops i = some o → nth vals i = some v → ∀ h, lo ms ch i ≤ h → h ≤ hi ms ch i → ∀ s s', nth hps h = some s → nth hps (if isCh ch i then h + 1 else h) = some s' → stepG P T ops sz o v s' (stAt ops ms st.env vals i s)

theorem countP_flip {l : List Nat} {p p' : Nat → Bool} {i : Nat} (hn : l.Nodup) (hp : p i = false) (hp' : ∀ j, p' j = (p j || Nat.beq i j)) : l.countP p' = if isCh l i then l.countP p + 1 else l.countP p := by
  induction l with
  | nil => rfl
  | cons a r ih =>
    have hn2 := List.nodup_cons.1 hn
    have ih := ih hn2.2
    simp only [List.countP_cons]
    have hc : isCh (a :: r) i = (Nat.beq i a || isCh r i) := rfl
    rw [hc, hp' a, ih]
    by_cases e : i = a
    · subst e
      have hr : isCh r i = false := by
        apply Bool.eq_false_iff.2
        intro h
        obtain ⟨x, hx, hb⟩ := List.any_eq_true.1 h
        have := Nat.eq_of_beq_eq_true hb
        subst this
        exact hn2.1 hx
      simp only [hr, hp, beqT]
      simp
    · simp only [beqF e, Bool.or_false, Bool.false_or]
      cases isCh r i <;> simp <;> omega

theorem put_get {tm : Array Value} {ds : List Deferred} {d : Option Nat} {y : Value} {k : Nat} (hk : k < ((⟨tm, ds⟩ : Act).put d y).tmps.size) (hk2 : k < tm.size) : ((⟨tm, ds⟩ : Act).put d y).tmps[k] = if d = some k then y else tm[k] := by
  cases d with
  | none => simp [Act.put]
  | some d =>
    refine (Array.getElem_setIfInBounds (xs := tm) (i := d) (a := y) hk2).trans ?_
    simp

theorem chainB_lt {ms : List Nat} : ∀ {l : List Nat}, chainB ms l = true → l.Nodup
  | [], _ => List.nodup_nil
  | a :: r, h => by
    simp only [chainB, Bool.and_eq_true, List.all_eq_true] at h
    refine List.nodup_cons.2 ⟨fun ha => ?_, chainB_lt h.2⟩
    have := (h.1 a ha).1
    rw [Nat.blt_eq] at this
    omega

/-- what stands while the operations 'listed' have been done -/
structure DrawInv (org : Me) (ops : List Oper) (ms ch : List Nat) (st : St) (vals : List LV) (hps : List Hp) (sz : Nat) (L : Array Bool) (tm : Array Value) (m : Me) : Prop where
  lsz : L.size = ops.length
  down : ∀ i, L.getD i false = true → ∀ j, pre ms i j = true → L.getD j false = true
  tsz : tm.size = sz
  ok : ∃ s, nth hps (ch.countP fun c => L.getD c false) = some s ∧ Ok org ⟨envG (fL L vals) st.env 0 ops, s.1, s.2, st.low⟩ m tm

theorem nth_some {α : Type} {l : List α} {i : Nat} (h : i < l.length) : ∃ x, nth l i = some x := ⟨l[i], by rw [nth_eq]; exact List.getElem?_eq_getElem h⟩
theorem nth_lt {α : Type} {l : List α} {i : Nat} {x : α} (h : nth l i = some x) : i < l.length := by rw [nth_eq] at h; exact (List.getElem?_eq_some_iff.1 h).1

theorem getD_size {L : Array Bool} {i : Nat} (h : i < L.size) : L.getD i true = L.getD i false := by simp [h]

theorem getD_set {L : Array Bool} {i j : Nat} (h : i < L.size) : (L.setIfInBounds i true).getD j false = (L.getD j false || Nat.beq i j) := by
  by_cases e : i = j
  · subst e; rw [beqT]; simp [h]
  · rw [beqF e, Bool.or_false, getD_set_ne false e]

theorem find_base {ops : List Oper} {k : Nat} (D : ∀ i j oi oj d, nth ops i = some oi → nth ops j = some oj → oi.dst = some d → oj.dst = some d → i = j) : (∀ f base, look k (envG f base 0 ops) = look k base) ∨ ∃ j o, nth ops j = some o ∧ o.dst = some k ∧ ∀ f base, look k (envG f base 0 ops) = (f j k).getD (look k base) := by
  by_cases h : ∃ j o, nth ops j = some o ∧ o.dst = some k
  · obtain ⟨j, o, h1, h2⟩ := h
    refine .inr ⟨j, o, h1, h2, fun f base => ?_⟩
    have := look_envG_some (f := f) (base := base) (j0 := 0) h1 h2 fun j' o' h3 h4 => D j' j o' o k h3 h1 h4 h2
    rwa [Nat.zero_add] at this
  · exact .inl fun f base => look_envG_none fun j o h1 h2 => h ⟨j, o, h1, h2⟩

theorem DrawInv.step {P : Program} {T : Tab} (hT : T.Ok P) {org : Me} {ops : List Oper} {ms ch : List Nat} {st : St} {vals : List LV} {hps : List Hp} {sz : Nat} (D : DrawOk ops ms ch) (O : DrawObs P T sz ops ms ch st vals hps)
    {ds : List Deferred} {Q : Exit → Act → World → Prop} (hok : ∀ o ∈ ops, opOk sz o = true)
    {L : Array Bool} {tm : Array Value} {m : Me} (I : DrawInv org ops ms ch st vals hps sz L tm m) {i : Nat} {o : Oper} (hi_ : nth ops i = some o) (hn : L.getD i false = false) (hpre : ∀ j, pre ms i j = true → L.getD j false = true)
    {K : Act → World → Prop} (hK : ∀ tm' m', DrawInv org ops ms ch st vals hps sz (L.setIfInBounds i true) tm' m' → K ⟨tm', ds⟩ m'.w) : wpOp P ops.toArray Q i K ⟨tm, ds⟩ m.w := by
  have hil := nth_lt hi_
  have hiL : i < L.size := by rw [I.lsz]; exact hil
  obtain ⟨v, hv⟩ := nth_some (l := vals) (i := i) (by rw [O.vlen]; exact hil)
  obtain ⟨s, hs, hO⟩ := I.ok
  have hnd := chainB_lt D.chain
  have hcnt := countP_flip (l := ch) (p := fun c => L.getD c false) (p' := fun c => (L.setIfInBounds i true).getD c false) (i := i) hnd hn fun j => getD_set hiL
  have hlo : lo ms ch i ≤ ch.countP fun c => L.getD c false := List.countP_mono_left fun c _ h => hpre c h
  have hhi : (ch.countP fun c => L.getD c false) ≤ hi ms ch i := List.countP_mono_left fun c _ h => by
    rw [Bool.not_eq_true']
    apply Bool.eq_false_iff.2
    intro h2
    rw [Bool.or_eq_true] at h2
    rcases h2 with h2 | h2
    · have := Nat.eq_of_beq_eq_true h2
      subst this
      rw [hn] at h; cases h
    · have := I.down c h i h2
      rw [hn] at this; cases this
  have hidx : (if isCh ch i then (ch.countP fun c => L.getD c false) + 1 else (ch.countP fun c => L.getD c false)) < hps.length := by
    have h1 := hcnt
    have h2 : ch.countP (fun c => (L.setIfInBounds i true).getD c false) ≤ ch.length := List.countP_le_length
    rw [h1] at h2
    rw [O.hlen]
    omega
  obtain ⟨s', hs'⟩ := nth_some hidx
  have hob := O.ob i o v hi_ hv _ hlo hhi s s' hs hs'
  -- the view of operation i
  have hview : Ok m (stAt ops ms st.env vals i s) m tm := by
    refine ⟨⟨hO.sim.n, fun k hk => ?_, hO.sim.obj, hO.sim.apart⟩, Fr.refl m, hO.sim.n.symm⟩
    have h1 := hO.sim.env k hk
    rcases find_base (k := k) D.dsts with hb | ⟨j, oj, hj, hd, hb⟩
    · show Rep m s.2 (look k (envG (fAt ms i vals) st.env 0 ops)) _
      rw [hb]; rw [hb] at h1; exact h1
    · show Rep m s.2 (look k (envG (fAt ms i vals) st.env 0 ops)) _
      rw [hb]; rw [hb] at h1
      unfold fAt
      unfold fL at h1
      cases hp : pre ms i j with
      | true =>
        rw [hpre j hp] at h1
        exact h1
      | false =>
        show Rep m s.2 (Option.getD (match Nat.beq i j || pre ms j i with | true => none | false => some .any) _) _
        cases hp2 : (Nat.beq i j || pre ms j i) with
        | false => exact trivial
        | true =>
          have : L.getD j false = false := by
            rw [Bool.or_eq_true] at hp2
            rcases hp2 with h2 | h2
            · rw [← Nat.eq_of_beq_eq_true h2]; exact hn
            · cases h3 : L.getD j false with
              | false => rfl
              | true => have := I.down j h3 i h2; rw [hn] at this; cases this
          rw [this] at h1
          exact h1
  -- behind it
  have hafter : ∀ (m' : Me) (y : Value) (next : Nat) (st'' : St), Ok m st'' m' tm → (st''.objs, st''.next) = s' → Rep m' st''.next v y → DrawInv org ops ms ch st vals hps sz (L.setIfInBounds i true) ((⟨tm, ds⟩ : Act).put o.dst y).tmps m' := by
    intro m' y _ st'' hO2 hst hr
    subst hst
    refine ⟨by simp [I.lsz], fun j hj k hk => ?_, (put_size tm ds o.dst y).trans I.tsz, ⟨(st''.objs, st''.next), by rw [hcnt]; exact hs', ⟨⟨hO2.sim.n, fun k hk => ?_, hO2.sim.obj, hO2.sim.apart⟩, hO.fr.trans hO2.fr, hO.low⟩⟩⟩
    · rw [getD_set hiL] at hj ⊢
      rw [Bool.or_eq_true] at hj
      rcases hj with hj | hj
      · rw [I.down j hj k hk]; rfl
      · have := Nat.eq_of_beq_eq_true hj
        subst this
        rw [hpre k hk]; rfl
    · have hk1 : k < tm.size := by rw [put_size] at hk; exact hk
      have h1 := Rep.fr hO2.fr s.2 st''.next (Nat.le_of_eq hO.sim.n.symm) (by have := hO2.fr.n; have := hO2.sim.n; have := hO.sim.n; show s.2 ≤ _; simp only at *; omega) _ _ (hO.sim.env k hk1)
      show Rep m' st''.next (look k (envG (fL (L.setIfInBounds i true) vals) st.env 0 ops)) _
      rcases find_base (k := k) D.dsts with hb | ⟨j, oj, hj, hd, hb⟩
      · rw [hb] at h1 ⊢
        have hne : o.dst ≠ some k := fun e => by
          have h2 := hb (fun _ _ => some (.bs true)) [(k, .bs false)]
          have h3 := look_envG_some (f := fun _ _ => some (.bs true)) (base := [(k, .bs false)]) (j0 := 0) hi_ e fun j' o' h4 h5 => D.dsts j' i o' o k h4 hi_ h5 e
          rw [h3] at h2
          simp [look] at h2
        have : ((⟨tm, ds⟩ : Act).put o.dst y).tmps[k] = tm[k] := by rw [put_get hk hk1, if_neg hne]
        rw [this]
        exact h1
      · rw [hb] at h1 ⊢
        unfold fL at h1 ⊢
        rw [getD_set hiL]
        by_cases e : i = j
        · subst e
          rw [hj] at hi_
          injection hi_ with hi_
          subst hi_
          rw [beqT, Bool.or_true]
          have : ((⟨tm, ds⟩ : Act).put oj.dst y).tmps[k] = y := by rw [put_get hk hk1, if_pos hd]
          rw [this, hv]
          exact hr
        · rw [beqF e, Bool.or_false]
          have : ((⟨tm, ds⟩ : Act).put o.dst y).tmps[k] = tm[k] := by rw [put_get hk hk1, if_neg fun h => e (D.dsts i j o oj k hi_ hj h hd)]
          rw [this]
          exact h1
  unfold wpOp
  have hi2 : ops.toArray[i]? = some o := by rw [List.getElem?_toArray, ← nth_eq]; exact hi_
  rw [hi2]
  have hmem : o ∈ ops := by rw [nth_eq] at hi_; exact List.mem_of_getElem? hi_
  rcases guardA_cases hview I.tsz hob with ⟨hw, st', h1, h2, h3, h4⟩ | ⟨hw, st', h1, h2, h3, h4⟩
  · simp only [hw, if_true]
    refine .inl ?_
    refine opA_sound hT h4 m m tm (fun x hx => by rw [I.tsz]; exact (List.all_eq_true.1 (hok o hmem)) x hx) h1 _ _ (fun y x st'' m' h5 h6 h7 => ?_) fun x st'' m' h5 _ => h5.elim
    rw [frc_eq, hpIs_eq] at h5
    rw [put_ds]
    exact hK _ _ (hafter m' y st''.next st'' h6 h5.2 (h5.1 _ _ _ h7))
  · simp only [hw, Bool.false_eq_true, if_false]
    rw [put_ds]
    rw [hpIs_eq] at h4
    exact hK _ _ (hafter m undef st'.next st' h1 (by rw [← h4.2]) (h4.1 _ _ _ ⟨[], rfl, rfl⟩))

theorem DrawInv.all {P : Program} {T : Tab} (hT : T.Ok P) {org : Me} {ops : List Oper} {ms ch : List Nat} {st : St} {vals : List LV} {hps : List Hp} {sz : Nat} (D : DrawOk ops ms ch) (O : DrawObs P T sz ops ms ch st vals hps)
    {ds : List Deferred} {Q : Exit → Act → World → Prop} (hok : ∀ o ∈ ops, opOk sz o = true)
    (hQ : ∀ tm m L, DrawInv org ops ms ch st vals hps sz L tm m → (∀ i, i < ops.length → L.getD i false = true) → Q .normal ⟨tm, ds⟩ m.w) :
    ∀ (fuel : Nat) (L : Array Bool) (tm : Array Value) (m : Me), DrawInv org ops ms ch st vals hps sz L tm m → (List.range ops.length).countP (fun i => !L.getD i false) ≤ fuel → wpAny P .any ops.toArray Q fuel L ⟨tm, ds⟩ m.w := by
  -- nothing is ready: all is done
  have done : ∀ L tm m, DrawInv org ops ms ch st vals hps sz L tm m → Region.ready .any ops.toArray L = [] → ∀ i, i < ops.length → L.getD i false = true := by
    intro L tm m I hr i
    induction i using Nat.strongRecOn with
    | ind i ih =>
      intro hi_
      cases hL : L.getD i false with
      | true => rfl
      | false =>
        exfalso
        obtain ⟨o, ho⟩ := nth_some hi_
        have : i ∈ Region.ready .any ops.toArray L := by
          refine mem_ready.2 ⟨by rw [getD_size (by rw [I.lsz]; exact hi_)]; exact hL, o, by rw [List.getElem?_toArray, ← nth_eq]; exact ho, fun e he hb => ?_⟩
          have hlt := D.back i o ho e (by simpa using he) hb
          exact ih _ hlt (by omega)
        rw [hr] at this
        cases this
  intro fuel
  induction fuel with
  | zero =>
    intro L tm m I hf
    have hall : ∀ i, i < ops.length → L.getD i false = true := by
      intro i hi_
      cases hL : L.getD i false with
      | true => rfl
      | false =>
        have : 0 < (List.range ops.length).countP (fun i => !L.getD i false) := List.countP_pos_iff.2 ⟨i, List.mem_range.2 hi_, by rw [hL]; rfl⟩
        omega
    refine ⟨?_, hQ tm m L I hall⟩
    apply List.eq_nil_iff_forall_not_mem.2
    intro j hj
    obtain ⟨h1, o, h2, _⟩ := mem_ready.1 hj
    have hjl : j < ops.length := by
      have := (Array.getElem?_eq_some_iff.1 h2).1
      simpa using this
    rw [getD_size (by rw [I.lsz]; exact hjl), hall j hjl] at h1
    cases h1
  | succ fuel ih =>
    intro L tm m I hf
    refine ⟨fun hr => hQ tm m L I (done L tm m I hr), fun i hi_ => ?_⟩
    obtain ⟨h1, o, h2, h3⟩ := mem_ready.1 hi_
    have hil : i < ops.length := by
      have := (Array.getElem?_eq_some_iff.1 h2).1
      simpa using this
    have ho : nth ops i = some o := by rw [nth_eq]; simpa using h2
    have hn : L.getD i false = false := by rw [← getD_size (by rw [I.lsz]; exact hil)]; exact h1
    refine DrawInv.step hT D O hok I ho hn (fun j hj => ?_) fun tm' m' I' => ih _ _ _ I' ?_
    · obtain ⟨e, he, hb, h4⟩ := (D.pre_iff i o ho j).1 hj
      have h5 := h3 e (by simpa using he) hb
      rcases h4 with rfl | h4
      · exact h5
      · exact I.down _ h5 j h4
    · have hiL : i < L.size := by rw [I.lsz]; exact hil
      have := countP_flip (l := List.range ops.length) (p := fun j => !(L.setIfInBounds i true).getD j false) (p' := fun j => !L.getD j false) (i := i) List.nodup_range (by rw [getD_set hiL, beqT, Bool.or_true]; rfl) fun j => by
        rw [getD_set hiL]
        by_cases e : i = j
        · subst e; rw [beqT, hn]; rfl
        · rw [beqF e]; simp
      have hc : isCh (List.range ops.length) i = true := List.any_eq_true.2 ⟨i, List.mem_range.2 hil, beqT i⟩
      rw [hc] at this
      simp only [if_true] at this
      omega

/-- **A REGION WHOSE ORDER IS OPEN.** -/
theorem DrawA.of {P : Program} {T : Tab} (hT : T.Ok P) (hm : P.follows .mixedOrders = true) {ops : Array Oper} {sz : Nat} {K : AX → St → Prop} {st : St} {ms ch : List Nat} {vals : List LV} {hps : List Hp} {s : Hp}
    (hD : drawB ops.toList ms ch = true) (O : DrawObs P T sz ops.toList ms ch st vals hps) (hs : nth hps ch.length = some s)
    (hK : K .normal ⟨envG (fEnd vals) st.env 0 ops.toList, s.1, s.2, st.low⟩) : DrawA P T sz ops K st := by
  intro org ds id hok m tm htm hO
  have D := DrawOk.of hD
  refine wp_region_any hm ?_
  have hO' := (hO.drew { m.w with drawn := m.w.drawn + 1 } ⟨rfl, rfl, rfl⟩ (Nat.le_refl _) (fun _ _ => rfl)).1
  have h0 : (ch.countP fun c => (Array.replicate ops.size false).getD c false) = 0 := by
    rw [List.countP_eq_zero]
    intro c _
    by_cases h : c < ops.size <;> simp [h]
  have hgetD : ∀ i, (Array.replicate ops.size false).getD i false = false := fun i => by by_cases h : i < ops.size <;> simp [h]
  have I0 : DrawInv org ops.toList ms ch st vals hps sz (Array.replicate ops.size false) tm (m.on { m.w with drawn := m.w.drawn + 1 } (Nat.le_refl _)) := by
    refine ⟨by simp, fun i hi_ => absurd (hi_.symm.trans (hgetD i)) (by simp), htm, ⟨(st.objs, st.next), by rw [h0]; exact O.h0, ⟨⟨hO'.sim.n, fun k hk => ?_, hO'.sim.obj, hO'.sim.apart⟩, hO'.fr, hO'.low⟩⟩⟩
    have h1 := hO'.sim.env k hk
    show Rep _ st.next (look k (envG (fL (Array.replicate ops.size false) vals) st.env 0 ops.toList)) _
    rcases find_base (k := k) D.dsts with hb | ⟨j, oj, hj, hd, hb⟩
    · rw [hb]; exact h1
    · rw [hb]
      unfold fL
      rw [hgetD]
      exact h1
  have main := DrawInv.all (org := org) hT D O (ds := ds) (Q := Post org ds sz K) (fun o ho => (List.all_eq_true.1 hok) o ho) (fun tm' m' L I hall => ?_) ops.size (Array.replicate ops.size false) tm (m.on { m.w with drawn := m.w.drawn + 1 } (Nat.le_refl _))
    I0 (by
      have : (List.range ops.toList.length).countP (fun i => !(Array.replicate ops.size false).getD i false) ≤ (List.range ops.toList.length).length := List.countP_le_length
      simpa using this)
  · exact main
  · obtain ⟨s2, hs2, hO2⟩ := I.ok
    have hcl : (ch.countP fun c => L.getD c false) = ch.length := by
      rw [List.countP_eq_length]
      intro c hc
      exact hall c (D.inr c hc)
    rw [hcl, hs] at hs2
    injection hs2 with hs2
    subst hs2
    refine ⟨rfl, I.tsz, .normal, _, m', rfl, hK, rfl, ⟨⟨hO2.sim.n, fun k hk => ?_, hO2.sim.obj, hO2.sim.apart⟩, hO2.fr, hO2.low⟩⟩
    have h1 := hO2.sim.env k hk
    show Rep m' s.2 (look k (envG (fEnd vals) st.env 0 ops.toList)) _
    rcases find_base (k := k) D.dsts with hb | ⟨j, oj, hj, hd, hb⟩
    · rw [hb] at h1 ⊢; exact h1
    · rw [hb] at h1 ⊢
      unfold fL at h1
      rw [hall j (nth_lt hj)] at h1
      exact h1

end Go.Proofs.Aw
namespace Go.Proofs.Aw
open Go Go.RowKit

/-! ### a region whose order is open, gone through in the order of its text -/
def lastH : List Hp → Hp → Hp
  | [], d => d
  | [x], _ => x
  | _ :: r, d => lastH r d
/-- what is reckoned, reckoned at once: a frame, cells, objects -/
def frcL : List (Nat × LV) → (List (Nat × LV) → Prop) → Prop
  | [], k => k []
  | (d, x) :: r, k => frc x fun x => frcL r fun r => k ((d, x) :: r)
def frcOs : List (Nat × LO) → (List (Nat × LO) → Prop) → Prop
  | [], k => k []
  | (o, x) :: r, k => match x with
    | .box t cs => frcC cs fun cs => frcOs r fun r => k ((o, .box t cs) :: r)
    | .arr t sz n g => frcOs r fun r => k ((o, .arr t sz n g) :: r)
    | .mp P kt et n f => frcOs r fun r => k ((o, .mp P kt et n f) :: r)
def snocK {α : Type} : List α → α → (List α → Prop) → Prop
  | [], x, k => k [x]
  | y :: r, x, k => snocK r x fun r => k (y :: r)
theorem snocK_eq {α : Type} : ∀ (l : List α) (x : α) (k : List α → Prop), snocK l x k = k (l ++ [x])
  | [], x, k => rfl
  | y :: r, x, k => by simp only [snocK]; rw [snocK_eq r]; rfl
theorem frcL_eq : ∀ (l : List (Nat × LV)) (k : List (Nat × LV) → Prop), frcL l k = k l
  | [], k => rfl
  | (d, x) :: r, k => by simp only [frcL, frc_eq]; rw [frcL_eq r]
theorem frcOs_eq : ∀ (l : List (Nat × LO)) (k : List (Nat × LO) → Prop), frcOs l k = k l
  | [], k => rfl
  | (d, x) :: r, k => by cases x <;> simp only [frcOs, frcC_eq] <;> rw [frcOs_eq r]
def stepF (P : Program) (T : Tab) (ops : List Oper) (sz : Nat) (o : Oper) (v : LV) (s' : Hp) (ms : List Nat) (base : List (Nat × LV)) (vals : List LV) (i : Nat) (s : Hp) : Prop :=
  frcL (envG (fAt ms i vals) base 0 ops) fun env => match s with
    | (a, b) => stepG P T ops sz o v s' ⟨env, a, b, b⟩
theorem stepF_eq {P : Program} {T : Tab} {ops : List Oper} {sz : Nat} {o : Oper} {v : LV} {s' : Hp} {ms : List Nat} {base : List (Nat × LV)} {vals : List LV} {i : Nat} {s : Hp} : stepF P T ops sz o v s' ms base vals i s = stepG P T ops sz o v s' (stAt ops ms base vals i s) := by
  unfold stepF; rw [frcL_eq]; cases s; rfl

/-- in the order of the text: what each gives (v), and how the objects are behind each of 'ch' -/
def drawGo (P : Program) (T : Tab) (ops : List Oper) (sz : Nat) (ms ch : List Nat) (base : List (Nat × LV)) (fin : List LV → List Hp → Prop) : Nat → List Oper → Hp → List LV → List Hp → Prop
  | i, [], s, vals, hps => fin vals hps
  | i, o :: r, s, vals, hps => match isCh ch i with
    | true => ∃ v s', stepF P T ops sz o v s' ms base vals i s ∧ match s' with
      | (a, n) => frcOs a fun a => snocK vals v fun vals => snocK hps (a, n) fun hps => drawGo P T ops sz ms ch base fin (i + 1) r (a, n) vals hps
    | false => ∃ v, stepF P T ops sz o v s ms base vals i s ∧ snocK vals v fun vals => drawGo P T ops sz ms ch base fin (i + 1) r s vals hps

/-- the other moments at which operation i may come -/
def otherH (P : Program) (T : Tab) (ops : List Oper) (sz : Nat) (ms ch : List Nat) (base : List (Nat × LV)) (vals : List LV) (hps : List Hp) (i : Nat) (o : Oper) (v : LV) (t : Nat) : Nat → Nat → Prop
  | 0, h => True
  | n + 1, h => (match Nat.beq h t with
    | true => True
    | false => match nth hps h, nth hps (match isCh ch i with | true => h + 1 | false => h) with
      | some s, some s' => stepF P T ops sz o v s' ms base vals i s
      | _, _ => False) ∧ otherH P T ops sz ms ch base vals hps i o v t n (h + 1)
def othersA (P : Program) (T : Tab) (ops : List Oper) (sz : Nat) (ms ch : List Nat) (base : List (Nat × LV)) (vals : List LV) (hps : List Hp) : Nat → List Oper → Prop
  | i, [] => True
  | i, o :: r => match Nat.beq (lo ms ch i) (ch.countP fun c => Nat.blt c i) && Nat.beq (hi ms ch i) (ch.countP fun c => Nat.blt c i) with
    | true => othersA P T ops sz ms ch base vals hps (i + 1) r
    | false => match nth vals i with
    | none => False
    | some v => otherH P T ops sz ms ch base vals hps i o v (ch.countP fun c => Nat.blt c i) (hi ms ch i + 1 - lo ms ch i) (lo ms ch i) ∧ othersA P T ops sz ms ch base vals hps (i + 1) r

theorem nth_append_left {α : Type} {l r : List α} {i : Nat} {x : α} (h : nth l i = some x) : nth (l ++ r) i = some x := by
  rw [nth_eq] at *
  rw [List.getElem?_append_left (List.getElem?_eq_some_iff.1 h).1]; exact h
theorem nth_append_at {α : Type} {l : List α} {x : α} : nth (l ++ [x]) l.length = some x := by
  rw [nth_eq]; simp

theorem fAt_congr {ms : List Nat} {i : Nat} {vals vals' : List LV} (hp : ∀ j, pre ms i j = true → j < i) (hv : ∀ j, j < i → nth vals' j = nth vals j) : ∀ j d, fAt ms i vals' j d = fAt ms i vals j d := by
  intro j d
  unfold fAt
  cases h : pre ms i j with
  | true => simp only [hv j (hp j h)]
  | false => rfl
theorem envG_congr {f f' : Nat → Nat → Option LV} {base : List (Nat × LV)} (h : ∀ j d, f j d = f' j d) : ∀ (j0 : Nat) (ops : List Oper), envG f base j0 ops = envG f' base j0 ops
  | _, [] => rfl
  | j0, o :: r => by simp only [envG, h, envG_congr h (j0 + 1) r]

theorem pre_lt {ops : List Oper} {ms ch : List Nat} (D : DrawOk ops ms ch) : ∀ i, i < ops.length → ∀ j, pre ms i j = true → j < i := by
  intro i
  induction i using Nat.strongRecOn with
  | ind i ih =>
    intro hi_ j hj
    obtain ⟨o, ho⟩ := nth_some hi_
    obtain ⟨e, he, hb, h⟩ := (D.pre_iff i o ho j).1 hj
    have := D.back i o ho e he hb
    rcases h with h | h
    · omega
    · have := ih _ this (by omega) j h
      omega

structure GoInv (P : Program) (T : Tab) (ops : List Oper) (sz : Nat) (ms ch : List Nat) (st : St) (i : Nat) (s : Hp) (vals : List LV) (hps : List Hp) : Prop where
  vlen : vals.length = i
  hlen : hps.length = (ch.countP fun c => Nat.blt c i) + 1
  last : nth hps (ch.countP fun c => Nat.blt c i) = some s
  h0 : nth hps 0 = some (st.objs, st.next)
  ob : ∀ j o v, j < i → nth ops j = some o → nth vals j = some v → ∀ s s', nth hps (ch.countP fun c => Nat.blt c j) = some s → nth hps (if isCh ch j then (ch.countP fun c => Nat.blt c j) + 1 else ch.countP fun c => Nat.blt c j) = some s' → stepG P T ops sz o v s' (stAt ops ms st.env vals j s)

theorem cnt_succ {ms ch : List Nat} (h : chainB ms ch = true) (i : Nat) : (ch.countP fun c => Nat.blt c (i + 1)) = if isCh ch i then (ch.countP fun c => Nat.blt c i) + 1 else ch.countP fun c => Nat.blt c i :=
  countP_flip (chainB_lt h) (by
    cases hb : Nat.blt i i with
    | false => rfl
    | true => rw [Nat.blt_eq] at hb; omega) fun j => by
    by_cases e : i = j
    · subst e
      rw [beqT, Bool.or_true]
      exact Nat.blt_eq.mpr (by omega)
    · rw [beqF e, Bool.or_false]
      cases hb : Nat.blt j i with
      | true => rw [Nat.blt_eq] at *; omega
      | false =>
        cases hb2 : Nat.blt j (i + 1) with
        | false => rfl
        | true =>
          rw [Nat.blt_eq] at hb2
          have : ¬ j < i := fun h => by rw [Nat.blt_eq.mpr h] at hb; cases hb
          omega

theorem stAt_congr {ops : List Oper} {ms ch : List Nat} (D : DrawOk ops ms ch) {base : List (Nat × LV)} {vals vals' : List LV} {i : Nat} {s : Hp} (hi_ : i < ops.length) (hv : ∀ j, j < i → nth vals' j = nth vals j) : stAt ops ms base vals' i s = stAt ops ms base vals i s := by
  unfold stAt
  rw [envG_congr (fAt_congr (fun j h => pre_lt D i hi_ j h) hv)]

theorem drawGo_sound {P : Program} {T : Tab} {ops : List Oper} {sz : Nat} {ms ch : List Nat} {st : St} (D : DrawOk ops ms ch) {fin : List LV → List Hp → Prop} : ∀ (r : List Oper) (i : Nat) (s : Hp) (vals : List LV) (hps : List Hp),
    (∀ k, nth r k = nth ops (i + k)) → i + r.length = ops.length → GoInv P T ops sz ms ch st i s vals hps → drawGo P T ops sz ms ch st.env fin i r s vals hps → ∃ s vals hps, GoInv P T ops sz ms ch st ops.length s vals hps ∧ fin vals hps
  | [], i, s, vals, hps, _, hl, I, h => by
    simp only [List.length_nil, Nat.add_zero] at hl
    subst hl
    exact ⟨s, vals, hps, I, h⟩
  | o :: r, i, s, vals, hps, hr, hl, I, h => by
    have ho : nth ops i = some o := by have := hr 0; simpa [nth] using this.symm
    have hil : i < ops.length := nth_lt ho
    have hr' : ∀ k, nth r k = nth ops (i + 1 + k) := fun k => by have := hr (k + 1); simp only [nth] at this; rw [this]; congr 1; omega
    have hl' : i + 1 + r.length = ops.length := by simp only [List.length_cons] at hl; omega
    have hvp : ∀ v, ∀ j, j < i → nth (vals ++ [v]) j = nth vals j := fun v j hj => by
      obtain ⟨x, hx⟩ := nth_some (l := vals) (i := j) (by rw [I.vlen]; exact hj)
      rw [hx]; exact nth_append_left hx
    have hcs := cnt_succ D.chain i
    have hle : ∀ j, j ≤ i → (ch.countP fun c => Nat.blt c j) ≤ ch.countP fun c => Nat.blt c i := fun j hj => List.countP_mono_left fun c _ h => by rw [Nat.blt_eq] at *; omega
    have hb : ∀ j v, j < i + 1 → nth (vals ++ [v]) j = some v ∧ j = i ∨ j < i := fun j v hj => by
      by_cases e : j = i
      · subst e; rw [← I.vlen]; exact .inl ⟨nth_append_at, rfl⟩
      · exact .inr (by omega)
    unfold drawGo at h
    cases hc : isCh ch i with
    | true =>
      rw [hc] at h hcs
      simp only [if_true] at hcs
      obtain ⟨v, s', h1, h2⟩ := h
      rw [stepF_eq] at h1
      obtain ⟨a0, nx⟩ := s'
      simp only [] at h2
      rw [frcOs_eq, snocK_eq, snocK_eq] at h2
      refine drawGo_sound D r (i + 1) (a0, nx) (vals ++ [v]) (hps ++ [(a0, nx)]) hr' hl' ⟨by simp [I.vlen], by rw [hcs]; simp [I.hlen], by rw [hcs, ← I.hlen]; exact nth_append_at, nth_append_left I.h0, fun j o' v' hj ho' hv' t t' ht ht' => ?_⟩ h2
      by_cases e : j = i
      · subst e
        rw [ho] at ho'; injection ho' with ho'; subst ho'
        have e1 : nth (vals ++ [v]) vals.length = some v := nth_append_at
        rw [I.vlen] at e1
        rw [e1] at hv'; injection hv' with hv'; subst hv'
        rw [nth_append_left I.last] at ht; injection ht with ht; subst ht
        rw [hc] at ht'
        simp only [if_true] at ht'
        rw [← I.hlen, nth_append_at] at ht'
        injection ht' with ht'; subst ht'
        rw [stAt_congr D hil (hvp v)]
        exact h1
      · have hj : j < i := by omega
        have hj2 := hle j (by omega)
        have hj3 := hle (j + 1) (by omega)
        rw [cnt_succ D.chain j] at hj3
        rw [hvp v j hj] at hv'
        obtain ⟨x, hx⟩ := nth_some (l := hps) (i := ch.countP fun c => Nat.blt c j) (by rw [I.hlen]; omega)
        obtain ⟨x', hx'⟩ := nth_some (l := hps) (i := if isCh ch j then (ch.countP fun c => Nat.blt c j) + 1 else ch.countP fun c => Nat.blt c j) (by rw [I.hlen]; omega)
        rw [nth_append_left hx] at ht; injection ht with ht; subst ht
        rw [nth_append_left hx'] at ht'; injection ht' with ht'; subst ht'
        rw [stAt_congr D (by omega) fun k hk => hvp v k (by omega)]
        exact I.ob j o' v' hj ho' hv' _ _ hx hx'
    | false =>
      rw [hc] at h hcs
      simp only [Bool.false_eq_true, if_false] at hcs
      obtain ⟨v, h1, h2⟩ := h
      rw [stepF_eq] at h1
      rw [snocK_eq] at h2
      refine drawGo_sound D r (i + 1) s (vals ++ [v]) hps hr' hl' ⟨by simp [I.vlen], by rw [hcs]; exact I.hlen, by rw [hcs]; exact I.last, I.h0, fun j o' v' hj ho' hv' t t' ht ht' => ?_⟩ h2
      by_cases e : j = i
      · subst e
        rw [ho] at ho'; injection ho' with ho'; subst ho'
        have e1 : nth (vals ++ [v]) vals.length = some v := nth_append_at
        rw [I.vlen] at e1
        rw [e1] at hv'; injection hv' with hv'; subst hv'
        rw [I.last] at ht; injection ht with ht; subst ht
        rw [hc] at ht'
        simp only [Bool.false_eq_true, if_false] at ht'
        rw [I.last] at ht'
        injection ht' with ht'; subst ht'
        rw [stAt_congr D hil (hvp v)]
        exact h1
      · have hj : j < i := by omega
        rw [hvp v j hj] at hv'
        rw [stAt_congr D (by omega) fun k hk => hvp v k (by omega)]
        exact I.ob j o' v' hj ho' hv' _ _ ht ht'

theorem otherH_get {P : Program} {T : Tab} {ops : List Oper} {sz : Nat} {ms ch : List Nat} {base : List (Nat × LV)} {vals : List LV} {hps : List Hp} {i : Nat} {o : Oper} {v : LV} {t : Nat} : ∀ {n h : Nat}, otherH P T ops sz ms ch base vals hps i o v t n h → ∀ k, h ≤ k → k < h + n → k ≠ t → ∀ s s', nth hps k = some s → nth hps (if isCh ch i then k + 1 else k) = some s' → stepG P T ops sz o v s' (stAt ops ms base vals i s)
  | 0, h, _, k, h1, h2, _, _, _, _, _ => by omega
  | n + 1, h, ho, k, h1, h2, h3, s, s', hs, hs' => by
    by_cases e : k = h
    · subst e
      have := ho.1
      rw [beqF h3] at this
      rw [hs] at this
      cases hc : isCh ch i with
      | true => rw [hc] at hs' this; simp only [if_true] at hs'; simp only [hs'] at this; rwa [stepF_eq] at this
      | false => rw [hc] at hs' this; simp only [Bool.false_eq_true, if_false] at hs'; simp only [hs'] at this; rwa [stepF_eq] at this
    · exact otherH_get ho.2 k (by omega) (by omega) h3 s s' hs hs'

theorem othersA_get {P : Program} {T : Tab} {ops : List Oper} {sz : Nat} {ms ch : List Nat} {base : List (Nat × LV)} {vals : List LV} {hps : List Hp} : ∀ {l : List Oper} {i0 : Nat}, othersA P T ops sz ms ch base vals hps i0 l → ∀ k o v, nth l k = some o → nth vals (i0 + k) = some v → ∀ h, lo ms ch (i0 + k) ≤ h → h ≤ hi ms ch (i0 + k) → h ≠ (ch.countP fun c => Nat.blt c (i0 + k)) → ∀ s s', nth hps h = some s → nth hps (if isCh ch (i0 + k) then h + 1 else h) = some s' → stepG P T ops sz o v s' (stAt ops ms base vals (i0 + k) s)
  | [], _, _, k, o, v, h, _ => by simp [nth] at h
  | o0 :: r, i0, ho, 0, o, v, h, hv => by
    simp only [nth, Option.some.injEq] at h
    subst h
    rw [Nat.add_zero] at hv ⊢
    intro k h1 h2 h3 s s' hs hs'
    unfold othersA at ho
    split at ho
    · rename_i hb
      rw [Bool.and_eq_true] at hb
      have e1 := Nat.eq_of_beq_eq_true hb.1
      have e2 := Nat.eq_of_beq_eq_true hb.2
      omega
    · rw [hv] at ho
      exact otherH_get ho.1 k h1 (by omega) h3 s s' hs hs'
  | o0 :: r, i0, ho, k + 1, o, v, h, hv => by
    have e : i0 + 1 + k = i0 + (k + 1) := by omega
    have key : othersA P T ops sz ms ch base vals hps (i0 + 1) r := by
      unfold othersA at ho
      split at ho
      · exact ho
      · split at ho
        · exact ho.elim
        · exact ho.2
    have := othersA_get key k o v h (by rw [e]; exact hv)
    rwa [e] at this

/-- **A REGION WHOSE ORDER IS OPEN, gone through in the order of its text.** -/
theorem DrawA.run {P : Program} {T : Tab} (hT : T.Ok P) (hm : P.follows .mixedOrders = true) {ops : Array Oper} {sz : Nat} {K : AX → St → Prop} {st : St} (ms ch : List Nat)
    (hD : drawB ops.toList ms ch = true)
    (h : drawGo P T ops.toList sz ms ch st.env (fun vals hps => othersA P T ops.toList sz ms ch st.env vals hps 0 ops.toList ∧ (match nth hps ch.length with
      | some (ob, nx) => frcL (envG (fEnd vals) st.env 0 ops.toList) fun env => K .normal ⟨env, ob, nx, st.low⟩
      | none => False)) 0 ops.toList (st.objs, st.next) [] [(st.objs, st.next)]) : DrawA P T sz ops K st := by
  have D := DrawOk.of hD
  have c0 : (ch.countP fun c => Nat.blt c 0) = 0 := by
    rw [List.countP_eq_zero]
    intro c _
    simp [Nat.blt_eq]
  obtain ⟨s, vals, hps, I, h1, h2⟩ := drawGo_sound (st := st) D ops.toList 0 (st.objs, st.next) [] [(st.objs, st.next)] (fun k => by rw [Nat.zero_add]) (by rw [Nat.zero_add])
    ⟨rfl, by rw [c0]; rfl, by rw [c0]; rfl, rfl, fun j _ _ hj => by omega⟩ h
  have cl : (ch.countP fun c => Nat.blt c ops.toList.length) = ch.length := by
    rw [List.countP_eq_length]
    intro c hc
    exact Nat.blt_eq.mpr (D.inr c hc)
  have hL := I.last
  rw [cl] at hL
  rw [hL] at h2
  obtain ⟨ob, nx⟩ := s
  simp only [frcL_eq] at h2
  refine DrawA.of hT hm (ms := ms) (ch := ch) (vals := vals) (hps := hps) (s := (ob, nx)) hD ⟨I.vlen, by rw [I.hlen, cl], I.h0, fun i o v ho hv k hk1 hk2 s s' hs hs' => ?_⟩ hL h2
  by_cases e : k = ch.countP fun c => Nat.blt c i
  · subst e
    exact I.ob i o v (nth_lt ho) ho hv s s' hs hs'
  · have := othersA_get h1 i o v ho (by rw [Nat.zero_add]; exact hv)
    rw [Nat.zero_add] at this
    exact this k hk1 hk2 e s s' hs hs'

end Go.Proofs.Aw
namespace Go.Proofs.Aw
open Go Go.RowKit

/-! ### behind a call: what it made is kept for good -/
def Me.free (m : Me) (D : Nat → Prop) : Me where
  w := m.w
  b := m.b
  vo := fun k => m.vo k ∧ ¬ D k
  wr := fun k => m.wr k ∧ ¬ D k
  n := m.n
  sub := fun k h => ⟨m.sub k h.1, h.2⟩
  lt := fun k h => m.lt k h.1
theorem Fr.free {m : Me} {D : Nat → Prop} (hD : ∀ k, D k → m.wr k) : Fr m (m.free D) :=
  ⟨rfl, rfl, rfl, Nat.le_refl _, fun _ _ _ => rfl, fun _ h => .inl h.1, fun _ h => .inl h.1, fun k h hn => ⟨h, fun hd => hn (hD k hd)⟩, fun _ _ => rfl, Nat.le_refl _⟩

def keepO (N : Nat) : List (Nat × LO) → List (Nat × LO)
  | [] => []
  | (o, x) :: r => match Nat.blt o N with
    | true => (o, x) :: keepO N r
    | false => keepO N r
def keepU (N : Nat) : List (Nat × LO) → Bool
  | [] => true
  | (_, x) :: r => x.under N && keepU N r
theorem lookO_keepO {N o : Nat} {ob : LO} : ∀ {l}, lookO o (keepO N l) = some ob → o < N ∧ lookO o l = some ob
  | [], h => by simp [keepO, lookO] at h
  | (j, x) :: r, h => by
    simp only [keepO] at h
    by_cases e : o = j
    · subst e
      cases hb : Nat.blt o N with
      | true =>
        simp only [hb, lookO, beqT] at h
        exact ⟨by rwa [Nat.blt_eq] at hb, by simpa [lookO] using h⟩
      | false =>
        simp only [hb] at h
        have := (lookO_keepO h).1
        rw [← Nat.blt_eq, hb] at this; cases this
    · simp only [lookO, beqF e]
      cases hb : Nat.blt j N with
      | true => simp only [hb, lookO, beqF e] at h; exact lookO_keepO h
      | false => simp only [hb] at h; exact lookO_keepO h
theorem keepU_look {N o : Nat} {ob : LO} : ∀ {l}, keepU N l = true → lookO o l = some ob → ob.under N = true
  | [], _, h => by simp [lookO] at h
  | (j, x) :: r, hu, h => by
    simp only [keepU, Bool.and_eq_true] at hu
    by_cases e : o = j
    · subst e; simp only [lookO, beqT, Option.some.injEq] at h; subst h; exact hu.1
    · simp only [lookO, beqF e] at h; exact keepU_look hu.2 h

mutual
def LV.fresh (N : Nat) : LV → Bool
  | .ls o _ => Nat.ble N o
  | .agg cs => freshL N cs
  | .tup cs => freshL N cs
  | _ => true
def freshL (N : Nat) : List LV → Bool
  | [] => true
  | x :: xs => x.fresh N && freshL N xs
end

mutual
theorem fz_fresh {st : St} {m : Me} {tm : Array Value} (hs : Sim st m tm) {vo : Nat → Prop} (lt : ∀ k, vo k → k < m.w.heap.size) {N : Nat} (hvo : ∀ k, vo k → m.vo k) (hD : ∀ o ob k, N ≤ o → lookO o st.objs = some ob → blkOf (m.b o) = some k → ¬ vo k) : ∀ (x : LV) (y : Value), Rep m st.next x y → x.fresh N = true → (fz st.objs x).under 0 = true → Rep (Me.base m.w vo lt) 0 (fz st.objs x) y
  | .any, _, _, _, _ => trivial
  | .v _, _, h, _, _ => h
  | .bs _, _, h, _, _ => h
  | .ly _ _ _, _, h, _, _ => ⟨h.1, h.2.1, fun k => h.2.2 (hvo _ k)⟩
  | .str _, _, h, _, _ => h
  | .agg cs, y, h, hf, hu => by
    obtain ⟨ys, rfl, h1, h2⟩ := h
    exact ⟨ys, rfl, fzL_fresh hs lt hvo hD cs ys h1 (by simpa [LV.fresh] using hf) (by simpa [fz, LV.under] using hu), h2⟩
  | .tup cs, y, h, hf, hu => by
    obtain ⟨ys, rfl, h1⟩ := h
    exact ⟨ys, rfl, fzL_fresh hs lt hvo hD cs ys h1 (by simpa [LV.fresh] using hf) (by simpa [fz, LV.under] using hu)⟩
  | .sl sz n g, y, h, _, hu => closed (m := m) (m' := Me.base m.w vo lt) rfl hvo (.sl sz n g) y (Rep.down _ _ rfl h)
  | .sp cs off, y, h, _, hu => closed (m := m) (m' := Me.base m.w vo lt) rfl hvo (.sp cs off) y (Rep.down _ _ rfl h)
  | .lp _ _, _, _, _, hu => by simp [fz, LV.under, Nat.blt_eq] at hu
  | .el _ _ _ _, _, _, _, hu => by simp [fz, LV.under, Nat.blt_eq] at hu
  | .ls o n, y, h, hf, hu => by
    simp only [fz] at hu ⊢
    simp only [LV.fresh, Nat.ble_eq] at hf
    split
    · rename_i ty sz n' g ho
      obtain ⟨h1, rfl, A, c, h2, h3⟩ := h
      obtain ⟨_, ⟨xs, h4, h5, h6⟩, h7⟩ := hs.obj o _ ho
      have hDo := fun k => hD o _ k hf ho
      rw [h2] at h4 ⊢
      rcases h4.2 with ⟨e1, e2⟩ | ⟨gg, cap, cur, e1, _, e3, e4, e5, e6, e7⟩
      · injection e1 with e1 e8 e9
        subst e1; subst e8; subst e9
        exact ⟨none, 0, rfl, Nat.le_refl _, by omega, fun _ => ⟨rfl, rfl⟩, fun h => absurd h (by omega)⟩
      · injection e1 with e1 e8 e9
        subst e1; subst e8; subst e9
        refine ⟨_, c, rfl, e4, by unfold maxLen at e5; omega, (by intro h; cases h), fun h0 => ⟨gg, 0, rfl, hDo gg (by rw [h2]; rfl), (h7 gg (by rw [h2]; rfl)).2, fun i hi => ?_⟩⟩
        obtain ⟨ys, h8, h9, h10⟩ := h6 i hi
        refine ⟨ys, closedL (m := m) (m' := Me.base m.w vo lt) rfl hvo (g i) ys h8, h9, ?_⟩
        rw [Nat.zero_add]
        exact cellsAt_own e3 e7 h5 hi h10
    · trivial
  | .as _ _ _, _, h, _, hu => by simp [fz, LV.under, Nat.blt_eq] at hu
  | .clo _ _ _, _, h, _, hu => by
    obtain ⟨fs, cs, rfl, h1, h2⟩ := h
    simp only [fz, LV.under, Bool.and_eq_true] at hu
    exact ⟨fs, cs, rfl, closedL (m := m) (m' := Me.base m.w vo lt) rfl hvo _ _ (RepL.down _ _ hu.1 h1), closedL (m := m) (m' := Me.base m.w vo lt) rfl hvo _ _ (RepL.down _ _ hu.2 h2)⟩
theorem fzL_fresh {st : St} {m : Me} {tm : Array Value} (hs : Sim st m tm) {vo : Nat → Prop} (lt : ∀ k, vo k → k < m.w.heap.size) {N : Nat} (hvo : ∀ k, vo k → m.vo k) (hD : ∀ o ob k, N ≤ o → lookO o st.objs = some ob → blkOf (m.b o) = some k → ¬ vo k) : ∀ (xs : List LV) (ys : List Value), RepL m st.next xs ys → freshL N xs = true → underL 0 (fzL st.objs xs) = true → RepL (Me.base m.w vo lt) 0 (fzL st.objs xs) ys
  | [], _, h, _, _ => h
  | x :: xs, ys, h, hf, hu => by
    obtain ⟨y, r, rfl, h1, h2⟩ := h
    simp only [fzL, underL, Bool.and_eq_true] at hu
    simp only [freshL, Bool.and_eq_true] at hf
    exact ⟨y, r, rfl, fz_fresh hs lt hvo hD x y h1 hf.1 hu.1, fzL_fresh hs lt hvo hD xs r h2 hf.2 hu.2⟩
end

/-- behind a call: the result, all that the call made being kept for good; the caller's objects as they are now -/
def settleK (N : Nat) (k : LV → St → Prop) (x : LV) (s : St) : Prop := frc (fz s.objs x) fun y => (y.under 0 = true ∧ x.fresh N = true ∧ keepU N (keepO N s.objs) = true) ∧ frcS ⟨s.env, keepO N s.objs, N, s.low⟩ fun s => ∃ y', LV.le y y' ∧ k y' s

theorem CallA.bodyS {P : Program} {T : Tab} (hT : T.Ok P) {f : FuncId} {fn : Func} {args : List LV} (hx : FnText P f fn args.length) {k : LV → St → Prop} {kp : Value → St → Prop} {st : St}
    (h : runC P T fn.ntmps (bodyOf fn) (bodyK T fn.results.toList (settleK st.next k) kp st) (st.enter args)) : CallA P f args k kp st := by
  refine ⟨hx.ok, fun org m tm vs hO hargs => ?_⟩
  have hOm : Ok m ⟨st.env, st.objs, st.next, st.next⟩ m tm := ⟨⟨hO.sim.n, hO.sim.env, hO.sim.obj, hO.sim.apart⟩, Fr.refl m, hO.sim.n.symm⟩
  have hb := CallA.body hT hx (k := fun x s => settleK st.next k x ⟨st.env, s.objs, s.next, st.low⟩) (kp := fun x s => kp x ⟨st.env, s.objs, s.next, st.low⟩) (st := ⟨st.env, st.objs, st.next, st.next⟩) (by
    have e1 : (⟨st.env, st.objs, st.next, st.next⟩ : St).enter args = st.enter args := rfl
    have e2 : bodyK T fn.results.toList (fun x s => settleK st.next k x ⟨st.env, s.objs, s.next, st.low⟩) (fun x s => kp x ⟨st.env, s.objs, s.next, st.low⟩) ⟨st.env, st.objs, st.next, st.next⟩ = bodyK T fn.results.toList (settleK st.next k) kp st := by
      funext s x
      cases x <;> cases st <;> cases s <;> rfl
    rw [e1, e2]
    exact h)
  refine (hb.2 m m tm vs hOm hargs).mono ?_
  rintro e w' ⟨s', m', rfl, h4, h5⟩
  rcases h5 with ⟨y, x, rfl, h6, h7⟩ | ⟨x, rfl, h7⟩
  · simp only [settleK, frc_eq, frcS_eq] at h7
    obtain ⟨⟨u1, u2, u3⟩, y', hle, h7⟩ := h7
    have hN := hO.sim.n
    let D : Nat → Prop := fun k => ∃ o ob, st.next ≤ o ∧ lookO o s'.objs = some ob ∧ blkOf (m'.b o) = some k
    have hDw : ∀ k, D k → m'.wr k := fun k ⟨o, ob, h1, h2, h3⟩ => ((h4.sim.obj o ob h2).2.2 k h3).1
    have hF : Fr m' (m'.free D) := Fr.free hDw
    have hFm : Fr m (m'.free D) := h4.fr.trans hF
    have hl : org.n ≤ st.next := by have := hO.fr.n; omega
    have hFo := hO.fr.trans hFm
    refine ⟨⟨st.env, keepO st.next s'.objs, st.next, st.low⟩, (m'.free D).cut st.next, rfl, ⟨⟨rfl, fun k hk => ?_, fun o ob ho => ?_, fun o o' ob ob' h1 h2 h3 k hk => ?_⟩, ?_, hO.low⟩, .inl ⟨y, _, rfl, ?_, h7⟩⟩
    · exact Rep.cut _ _ (Rep.fr hFm st.next st.next (by omega) (Nat.le_refl _) _ _ (hO.sim.env k hk))
    · obtain ⟨h1, h2⟩ := lookO_keepO ho
      obtain ⟨q1, q2, q3⟩ := h4.sim.obj o ob h2
      refine ⟨h1, RepO.cut (RepO.down (keepU_look u3 ho) (RepO.fr hF s'.next s'.next (Nat.le_of_eq h4.sim.n.symm) (Nat.le_refl _) q2 fun _ _ => rfl)), fun k hk => ⟨⟨(q3 k hk).1, fun ⟨o', ob', d1, d2, d3⟩ => ?_⟩, (q3 k hk).2⟩⟩
      exact h4.sim.apart o o' ob ob' h2 d2 (by omega) k hk d3
    · exact h4.sim.apart o o' ob ob' (lookO_keepO h1).2 (lookO_keepO h2).2 h3 k hk
    · exact ⟨hFo.os, hFo.tape, hFo.output, hFo.size, hFo.keep, hFo.wr, hFo.vo, hFo.vk, hFo.b, hl⟩
    · have lt : ∀ k, (m'.free D).vo k → k < m'.w.heap.size := fun k h => m'.lt k h.1
      have := fz_fresh h4.sim (vo := (m'.free D).vo) lt (N := st.next) (fun k h => h.1) (fun o ob k h1 h2 h3 h => h.2 ⟨o, ob, h1, h2, h3⟩) x y h6 u2 u1
      exact hle _ _ _ ((closed (m := Me.base m'.w (m'.free D).vo lt) (m' := (m'.free D).cut st.next) rfl (fun k h => h) _ _ this).up (Nat.zero_le _) (Nat.zero_le _))
  · refine ⟨⟨st.env, s'.objs, s'.next, st.low⟩, m', rfl, ⟨⟨h4.sim.n, fun k hk => ?_, h4.sim.obj, h4.sim.apart⟩, hO.fr.trans h4.fr, hO.low⟩, .inr ⟨x, rfl, h7⟩⟩
    have hN := hO.sim.n
    have := h4.fr.n
    have := h4.sim.n
    exact Rep.fr h4.fr st.next s'.next (by omega) (by omega) _ _ (hO.sim.env k hk)

end Go.Proofs.Aw
