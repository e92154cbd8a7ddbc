/- A PART OF THE PROOF: an abstract run of the loaded code over value trees, and the functions walked by it. No condition of its own. -/
import Derived.Test.YtanmknmlphkeaaaDoorA3
namespace Go.Proofs.Aw
open Go Go.RowKit

/-! ### types -/
inductive TK where
  | bool | int (k : IntKind) | str | ptr (e : TypeId) | slice (e : TypeId) | arr (n : Nat) (e : TypeId) | struct (fs : List (Nat × TypeId)) | iface | map (k e : TypeId) | other
structure TI where
  k : TK
  size : Nat
  bytes : Nat
  zero : List LV
inductive Tab where
  | nil
  | node (l : Tab) (t : Nat) (i : TI) (r : Tab)
def Tab.find (T : Tab) (t : Nat) : Option TI := match T with
  | .nil => none
  | .node l k i r => match Nat.beq t k with
    | true => some i
    | false => match Nat.blt t k with
      | true => l.find t
      | false => r.find t
def TK.ok (P : Program) (t : TypeId) : TK → Prop
  | .bool => P.underlying t = some .bool
  | .int k => P.underlying t = some (.int k)
  | .str => P.underlying t = some .string
  | .ptr e => P.underlying t = some (.pointer e)
  | .slice e => P.underlying t = some (.slice e)
  | .arr n e => P.underlying t = some (.array n e)
  | .struct fs => ∃ a, P.underlying t = some (.struct a) ∧ a.toList.map (fun f => (f.offset, f.type)) = fs
  | .iface => ∃ ms, P.underlying t = some (.interface ms)
  | .map k e => P.underlying t = some (.map k e)
  | .other => True
def TK.agg : TK → Bool
  | .arr .. => true
  | .struct .. => true
  | _ => false
structure TI.ok (P : Program) (t : TypeId) (ti : TI) : Prop where
  k : ti.k.ok P t
  d : ∃ d, P.underlying t = some d ∧ (match d with | .struct _ | .array _ _ => true | _ => false) = ti.k.agg
  o : ∀ i z, P.info? t = some i → i.zero = some z → z.oneCell' = !ti.k.agg
  i : ∃ i z, P.info? t = some i ∧ i.size = ti.size ∧ i.bytes = ti.bytes ∧ i.zero = some z ∧ z.cells.toList.map ofConst = ti.zero ∧ z.cells.toList.all (·.oneCell') = true ∧ z.cells.size = ti.size
theorem tiO {P : Program} {t : TypeId} {i0 : TypeInfo} {z0 : Value} {b : Bool} (h : P.info? t = some i0) (hz : i0.zero = some z0) (ho : z0.oneCell' = b) : ∀ i z, P.info? t = some i → i.zero = some z → z.oneCell' = b := by
  intro i z h1 h2
  rw [h] at h1
  injection h1 with h1
  subst h1
  rw [hz] at h2
  injection h2 with h2
  subst h2
  exact ho
def Tab.Ok (P : Program) : Tab → Prop
  | .nil => True
  | .node l t i r => l.Ok P ∧ i.ok P t ∧ r.Ok P
theorem Tab.Ok.find {P : Program} : ∀ {T : Tab}, T.Ok P → ∀ {t ti}, T.find t = some ti → ti.ok P t
  | .nil, _, t, ti, h => by simp [Tab.find] at h
  | .node l k i r, ⟨h1, h2, h3⟩, t, ti, h => by
    simp only [Tab.find] at h
    split at h
    · rename_i e
      have e' := Nat.eq_of_beq_eq_true e
      subst e'
      injection h with h
      subst h
      exact h2
    · split at h
      · exact Tab.Ok.find h1 h
      · exact Tab.Ok.find h3 h

/-! ### calls -/
def FnOk (P : Program) (f : FuncId) : Prop := ∀ args w, (callFunc f args).run P w = .ok (.enter f args) w
def CallA (P : Program) (f : FuncId) (args : List LV) (k : LV → St → Prop) (kp : Value → St → Prop) (st : St) : Prop :=
  FnOk P f ∧ ∀ org m tm vs, Ok org st m tm → RepL m st.next args vs → Calls P f vs.toArray m.w fun e w' =>
    ∃ st' m', m'.w = w' ∧ Ok org st' m' tm ∧ ((∃ y x, e = .returned y ∧ Rep m' st'.next x y ∧ k x st') ∨ (∃ x, e = .panicked [{ v := x, recovered := false }] ∧ kp x st'))

/-! ### what an operation does -/
def OpSem (P : Program) (ds : List Deferred) (o : Oper) (k : LV → St → Prop) (kp : Value → St → Prop) (st : St) : Prop :=
  ∀ org m tm, (∀ x ∈ o.op.operands.toList, okO tm.size x = true) → Ok org st m tm → ∀ (next : Act → World → Prop) (Q : Exit → Act → World → Prop),
    (∀ y x st' m', k x st' → Ok org st' m' tm → Rep m' st'.next x y → next ((⟨tm, ds⟩ : Act).put o.dst y) m'.w) →
    (∀ x st' m', kp x st' → Ok org st' m' tm → Q (.panic [{ v := x, recovered := false }]) ⟨tm, ds⟩ m'.w) → o.wp P ⟨tm, ds⟩ m.w next Q

theorem OpSem.val {P : Program} {ds : List Deferred} {o : Oper} {k : LV → St → Prop} {kp : Value → St → Prop} {st : St}
    (h : ∀ org m tm, (∀ x ∈ o.op.operands.toList, okO tm.size x = true) → Ok org st m tm → ∃ y x st' m', (execOp (Act.eval ⟨tm, ds⟩) o).run P m.w = .ok (.value y) m'.w ∧ k x st' ∧ Ok org st' m' tm ∧ Rep m' st'.next x y) : OpSem P ds o k kp st := by
  intro org m tm h1 h2 next Q hn hp
  obtain ⟨y, x, st', m', h3, h4, h5, h6⟩ := h org m tm h1 h2
  unfold Oper.wp
  rw [h3]
  exact hn y x st' m' h4 h5 h6

theorem OpSem.unit {P : Program} {ds : List Deferred} {o : Oper} {k : LV → St → Prop} {kp : Value → St → Prop} {st : St}
    (h : ∀ org m tm, (∀ x ∈ o.op.operands.toList, okO tm.size x = true) → Ok org st m tm → ∃ st' m', (execOp (Act.eval ⟨tm, ds⟩) o).run P m.w = .ok .skip m'.w ∧ k .any st' ∧ Ok org st' m' tm) : OpSem P ds o k kp st := by
  intro org m tm h1 h2 next Q hn hp
  obtain ⟨st', m', h3, h4, h5⟩ := h org m tm h1 h2
  unfold Oper.wp
  rw [h3]
  exact hn undef .any st' m' h4 h5 trivial

theorem OpSem.pure {P : Program} {ds : List Deferred} {o : Oper} {k : LV → St → Prop} {kp : Value → St → Prop} {st : St} (x : LV) (hk : k x st)
    (h : ∀ org m tm, (∀ x ∈ o.op.operands.toList, okO tm.size x = true) → Ok org st m tm → ∃ y, (execOp (Act.eval ⟨tm, ds⟩) o).run P m.w = .ok (.value y) m.w ∧ Rep m st.next x y) : OpSem P ds o k kp st :=
  OpSem.val fun org m tm h1 h2 => by
    obtain ⟨y, h3, h4⟩ := h org m tm h1 h2
    exact ⟨y, x, st, m, h3, hk, h2, h4⟩

/-! ### lists of operations -/
def AL (P : Program) (org : Me) (ds : List Deferred) (sz : Nat) (ops : Array Oper) (l : List Oper) (K : AX → St → Prop) (st : St) : Prop :=
  ∀ m tm, tm.size = sz → Ok org st m tm → wpList P ops (Post org ds sz K) l ⟨tm, ds⟩ m.w

theorem put_size (tm : Array Value) (ds : List Deferred) (d : Option Nat) (y : Value) : ((⟨tm, ds⟩ : Act).put d y).tmps.size = tm.size := by
  cases d <;> simp [Act.put]
theorem put_ds (tm : Array Value) (ds : List Deferred) (d : Option Nat) (y : Value) : ((⟨tm, ds⟩ : Act).put d y) = ⟨((⟨tm, ds⟩ : Act).put d y).tmps, ds⟩ := by
  cases d <;> rfl

def opOk (sz : Nat) (o : Oper) : Bool := o.op.operands.toList.all (okO sz)

section
variable {P : Program} {org : Me} {ds : List Deferred} {sz : Nat} {ops : Array Oper} {l : List Oper} {o : Oper} {K : AX → St → Prop} {st : St}

theorem AL.nil (h : K .normal st) : AL P org ds sz ops [] K st :=
  fun m tm h1 h2 => wpList_nil ⟨rfl, h1, .normal, st, m, rfl, h, rfl, h2⟩

theorem AL.doOp (hok : opOk sz o = true) (hw : ∀ m tm, tm.size = sz → Ok org st m tm → Region.wanted o (yielded ops tm) = true)
    (h : OpSem P ds o (fun x st' => AL P org ds sz ops l K (st'.put o.dst x)) (fun x st' => K (.pan x) st') st) : AL P org ds sz ops (o :: l) K st := by
  intro m tm h1 h2
  refine wpList_step fun K' hK' => ?_
  rw [if_pos (hw m tm h1 h2)]
  refine h org m tm (fun x hx => by subst h1; exact (List.all_eq_true.1 hok) x hx) h2 _ _ ?_ ?_
  · intro y x st' m' h3 h4 h5
    have h6 := h3 m' _ ((put_size tm ds o.dst y).trans h1) (h4.put o.dst h5 ds)
    rw [put_ds]
    exact hK' _ _ h6
  · intro x st' m' h3 h4
    exact ⟨rfl, h1, .pan x, st', m', rfl, h3, rfl, h4⟩

theorem AL.skipOp (hw : ∀ m tm, tm.size = sz → Ok org st m tm → Region.wanted o (yielded ops tm) = false) (h : AL P org ds sz ops l K (st.put o.dst (.tup []))) : AL P org ds sz ops (o :: l) K st := by
  intro m tm h1 h2
  refine wpList_step fun K' hK' => ?_
  rw [if_neg (by rw [hw m tm h1 h2]; simp)]
  have h6 := h m _ ((put_size tm ds o.dst undef).trans h1) (h2.put o.dst (x := .tup []) (y := undef) ⟨[], rfl, rfl⟩ ds)
  rw [put_ds]
  exact hK' _ _ h6

theorem AL.split {d : Nat} {b : Bool} (hd : look d st.env = .bs b) (ht : b = true → AL P org ds sz ops l K (st.put (some d) (.v (.bool true)))) (hf : b = false → AL P org ds sz ops l K (st.put (some d) (.v (.bool false)))) : AL P org ds sz ops l K st := by
  intro m tm h1 h2
  have key : ∀ c : Bool, b = c → Ok org (st.put (some d) (.v (.bool c))) m tm := by
    intro c hc
    subst hc
    refine ⟨⟨h2.sim.n, fun k hk => ?_, h2.sim.obj, h2.sim.apart⟩, h2.fr, h2.low⟩
    have := h2.sim.env k hk
    simp only [St.put, look]
    by_cases e : k = d
    · subst e; rw [beqT]; rw [hd] at this; exact this
    · rw [beqF e]; exact this
  cases b with
  | true => exact ht rfl m tm h1 (key true rfl)
  | false => exact hf rfl m tm h1 (key false rfl)
end

def nth {α : Type} : List α → Nat → Option α
  | [], _ => none
  | x :: _, 0 => some x
  | _ :: r, n + 1 => nth r n
theorem nth_eq {α : Type} : ∀ (l : List α) (i : Nat), nth l i = l[i]?
  | [], i => by simp [nth]
  | x :: r, 0 => by simp [nth]
  | x :: r, n + 1 => by simp [nth, nth_eq r n]

/-- an operation under its guard -/
def guardA (ops : List Oper) (sz : Nat) (o : Oper) (yes no : St → Prop) (st : St) : Prop :=
  match o.guard with
  | none => yes st
  | some (j, want) => match nth ops j with
    | none => False
    | some oj => match oj.dst with
      | none => False
      | some d => match Nat.blt d sz with
        | false => False
        | true => match look d st.env with
          | .v (.bool true) => match want with
            | true => yes st
            | false => no st
          | .v (.bool false) => match want with
            | true => no st
            | false => yes st
          | .bs b => match want with
            | true => (b = true → yes (st.put (some d) (.v (.bool true)))) ∧ (b = false → no (st.put (some d) (.v (.bool false))))
            | false => (b = true → no (st.put (some d) (.v (.bool true)))) ∧ (b = false → yes (st.put (some d) (.v (.bool false))))
          | .tup [] => no st
          | _ => False

section
variable {P : Program} {org : Me} {ds : List Deferred} {sz : Nat} {ops l : List Oper} {o : Oper} {K : AX → St → Prop}

theorem wanted_at {tm : Array Value} {j : Nat} {want : Bool} {oj : Oper} {d : Nat} {c : Bool} (hg : o.guard = some (j, want)) (hj : nth ops j = some oj) (hd : oj.dst = some d) (hs : d < tm.size) (hv : tm[d] = .bool c) : Region.wanted o (yielded ops.toArray tm) = (c == want) := by
  rw [nth_eq] at hj
  simp [Region.wanted, hg, yielded, hj, hd, hs, hv]

theorem wanted_undef {tm : Array Value} {j : Nat} {want : Bool} {oj : Oper} {d : Nat} (hg : o.guard = some (j, want)) (hj : nth ops j = some oj) (hd : oj.dst = some d) (hs : d < tm.size) (hv : tm[d] = .tuple #[]) : Region.wanted o (yielded ops.toArray tm) = false := by
  rw [nth_eq] at hj
  simp [Region.wanted, hg, yielded, hj, hd, hs, hv]

theorem AL.guard (hok : opOk sz o = true) {st : St}
    (h : guardA ops sz o (fun st' => OpSem P ds o (fun x st' => AL P org ds sz ops.toArray l K (st'.put o.dst x)) (fun x st' => K (.pan x) st') st') (fun st' => AL P org ds sz ops.toArray l K (st'.put o.dst (.tup []))) st) : AL P org ds sz ops.toArray (o :: l) K st := by
  unfold guardA at h
  split at h
  · rename_i hg
    exact AL.doOp hok (fun m tm _ _ => by simp [Region.wanted, hg]) h
  · rename_i j want hg
    split at h
    · exact h.elim
    · rename_i oj hj
      split at h
      · exact h.elim
      · rename_i d hd
        split at h
        · exact h.elim
        · rename_i hs
          rw [Nat.blt_eq] at hs
          have key : ∀ (st : St) (c : Bool), look d st.env = .v (.bool c) → ∀ m tm, tm.size = sz → Ok org st m tm → Region.wanted o (yielded ops.toArray tm) = (c == want) := by
            intro st c hc m tm h1 h2
            have := h2.sim.env d (by omega)
            rw [hc] at this
            exact wanted_at hg hj hd (by omega) this
          have put_look : ∀ (st : St) (x : LV), look d (st.put (some d) x).env = x := fun st x => by simp [St.put, look]
          split at h
          · rename_i hl
            cases want with
            | true => exact AL.doOp hok (fun m tm h1 h2 => by rw [key _ _ hl m tm h1 h2]; rfl) h
            | false => exact AL.skipOp (fun m tm h1 h2 => by rw [key _ _ hl m tm h1 h2]; rfl) h
          · rename_i hl
            cases want with
            | true => exact AL.skipOp (fun m tm h1 h2 => by rw [key _ _ hl m tm h1 h2]; rfl) h
            | false => exact AL.doOp hok (fun m tm h1 h2 => by rw [key _ _ hl m tm h1 h2]; rfl) h
          · rename_i b hl
            cases want with
            | true =>
              refine AL.split hl (fun hb => ?_) (fun hb => ?_)
              · exact AL.doOp hok (fun m tm h1 h2 => by rw [key _ true (put_look _ _) m tm h1 h2]; rfl) (h.1 hb)
              · exact AL.skipOp (fun m tm h1 h2 => by rw [key _ false (put_look _ _) m tm h1 h2]; rfl) (h.2 hb)
            | false =>
              refine AL.split hl (fun hb => ?_) (fun hb => ?_)
              · exact AL.skipOp (fun m tm h1 h2 => by rw [key _ true (put_look _ _) m tm h1 h2]; rfl) (h.1 hb)
              · exact AL.doOp hok (fun m tm h1 h2 => by rw [key _ false (put_look _ _) m tm h1 h2]; rfl) (h.2 hb)
          · rename_i hl
            refine AL.skipOp (fun m tm h1 h2 => ?_) h
            have := h2.sim.env d (by omega)
            rw [hl] at this
            obtain ⟨ys, hy, h3⟩ := this
            have h3 : ys = [] := h3
            subst h3
            exact wanted_undef hg hj hd (by omega) hy
          · exact h.elim
end

theorem AW.region {P : Program} {org : Me} {ds : List Deferred} {sz id : Nat} {ops : Array Oper} {K : AX → St → Prop} {st : St} (h : AL P org ds sz ops ops.toList K st) : AW P org ds sz (.region id ops false) K st :=
  fun m tm h1 h2 => wp_region_list (h m tm h1 h2)

/-- a test -/
def condA (x : LV) (t e : Prop) : Prop := match x with
  | .v (.bool true) => t
  | .v (.bool false) => e
  | .bs b => (b = true → t) ∧ (b = false → e)
  | _ => False

theorem AW.cond {P : Program} {org : Me} {ds : List Deferred} {sz : Nat} {c : Operand} {a b : Code} {K : AX → St → Prop} {st : St} (hc : okO sz c = true)
    (h : condA (evO st c) (AW P org ds sz a K st) (AW P org ds sz b K st)) : AW P org ds sz (.cond c a b) K st := by
  intro m tm h1 h2
  have he := h2.sim.ev (ds := ds) c (by rw [h1]; exact hc)
  unfold condA at h
  split at h
  · rename_i hx; rw [hx] at he; exact wp_cond_true he (h m tm h1 h2)
  · rename_i hx; rw [hx] at he; exact wp_cond_false he (h m tm h1 h2)
  · rename_i q hx; rw [hx] at he
    exact wp_cond_split he (fun hq => h.1 hq m tm h1 h2) (fun hq => h.2 hq m tm h1 h2)
  · exact h.elim

end Go.Proofs.Aw
