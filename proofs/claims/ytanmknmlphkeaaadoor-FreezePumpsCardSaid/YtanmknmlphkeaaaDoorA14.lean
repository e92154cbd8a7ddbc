/- A PART OF THE PROOF: an abstract run of the loaded code over value trees, and the functions walked by it. No condition of its own. -/
import Derived.Test.YtanmknmlphkeaaaDoorA13
import Derived.Test.YtanmknmlphkeaaaDoorA10s
namespace Go.Proofs.Aw
open Go Go.RowKit

mutual
/-- the value itself, where nothing in it lies in memory -/
def LV.val : LV → Option Value
  | .v x => some x
  | .bs b => some (.bool b)
  | .str l => some (strV l)
  | .agg cs => match valL cs with
    | some ys => some (.agg ys.toArray)
    | none => none
  | _ => none
def valL : List LV → Option (List Value)
  | [] => some []
  | x :: xs => match x.val, valL xs with
    | some y, some ys => some (y :: ys)
    | _, _ => none
end
mutual
theorem LV.val_sound {m : Me} {N : Nat} : ∀ {x : LV} {y v : Value}, x.val = some v → Rep m N x y → y = v
  | .v _, _, _, h, hr => by simp only [LV.val, Option.some.injEq] at h; subst h; exact hr
  | .bs _, _, _, h, hr => by simp only [LV.val, Option.some.injEq] at h; subst h; exact hr
  | .str _, _, _, h, hr => by simp only [LV.val, Option.some.injEq] at h; subst h; exact hr
  | .agg cs, y, v, h, hr => by
    simp only [LV.val] at h
    obtain ⟨ys, rfl, h1, _⟩ := hr
    split at h
    · rename_i zs hz
      simp only [Option.some.injEq] at h
      subst h
      rw [valL_sound hz h1]
    · cases h
  | .any, _, _, h, _ => by simp [LV.val] at h
  | .tup _, _, _, h, _ => by simp [LV.val] at h
  | .sl _ _ _, _, _, h, _ => by simp [LV.val] at h
  | .sp _ _, _, _, h, _ => by simp [LV.val] at h
  | .lp _ _, _, _, h, _ => by simp [LV.val] at h
  | .el _ _ _ _, _, _, h, _ => by simp [LV.val] at h
  | .ls _ _, _, _, h, _ => by simp [LV.val] at h
  | .clo _ _ _, _, _, h, _ => by simp [LV.val] at h
theorem valL_sound {m : Me} {N : Nat} : ∀ {xs : List LV} {ys vs : List Value}, valL xs = some vs → RepL m N xs ys → ys = vs
  | [], ys, vs, h, hr => by simp only [valL, Option.some.injEq] at h; subst h; exact hr
  | x :: xs, ys, vs, h, hr => by
    simp only [valL] at h
    obtain ⟨y, r, rfl, h1, h2⟩ := hr
    split at h
    · rename_i a b ha hb
      simp only [Option.some.injEq] at h
      subst h
      rw [LV.val_sound ha h1, valL_sound hb h2]
    · cases h
end

def TK.plain : TK → Bool
  | .iface => false
  | .other => false
  | _ => true

def lenA (T : Tab) (t : TypeId) (x : LV) (K : LV → Prop) : Prop := match T.find t with
  | none => False
  | some ti => match ti.k with
    | .str => match x with
      | .str l => K (.v (.int .i64 (l.length : Int)))
      | _ => False
    | .arr n _ => K (.v (.int .i64 (n : Int)))
    | .slice _ => match x with
      | .sl _ n _ => K (.v (.int .i64 (n : Int)))
      | .ls _ n => K (.v (.int .i64 (n : Int)))
      | .v (.slice _ n _) => K (.v (.int .i64 (n : Int)))
      | _ => False
    | _ => False

theorem lenA_sound {P : Program} {T : Tab} (hT : T.Ok P) {t ty : TypeId} {m : Me} {N : Nat} {x : LV} {K : LV → Prop} {y : Value} (h : lenA T t x K) (hr : Rep m N x y) (w : World) :
    ∃ r v, K r ∧ Rep m N r v ∧ (Builtin.len_ #[t] ty #[y]).run P w = .ok v w := by
  unfold lenA at h
  split at h
  · exact h.elim
  rename_i ti hti
  have hok := (hT.find hti).k
  split at h
  · rename_i hk
    rw [hk] at hok
    split at h
    · rename_i l
      have : y = strV l := hr
      subst this
      exact ⟨_, _, h, rfl, by simp [Builtin.len_, run_underlying hok, strV, goInt, strV_size]⟩
    · exact h.elim
  · rename_i n e hk
    rw [hk] at hok
    exact ⟨_, _, h, rfl, by simp [Builtin.len_, run_underlying hok, goInt]⟩
  · rename_i e hk
    rw [hk] at hok
    split at h
    · obtain ⟨A, cap, rfl, _⟩ := hr
      exact ⟨_, _, h, rfl, by simp [Builtin.len_, run_underlying hok, goInt]⟩
    · obtain ⟨_, h1, A, c, h2, _⟩ := hr
      rw [h2] at h1
      subst h1
      exact ⟨_, _, h, rfl, by simp [Builtin.len_, run_underlying hok, goInt]⟩
    · rename_i A n c
      have : y = .slice A n c := hr
      subst this
      exact ⟨_, _, h, rfl, by simp [Builtin.len_, run_underlying hok, goInt]⟩
    · exact h.elim
  · exact h.elim

def minA (x y : LV) (K : LV → Prop) : Prop := match x, y with
  | .v (.int k a), .v (.int _ b) => K (.v (.int k (if b < a then b else a)))
  | _, _ => False
def maxA (x y : LV) (K : LV → Prop) : Prop := match x, y with
  | .v (.int k a), .v (.int _ b) => K (.v (.int k (if b > a then b else a)))
  | _, _ => False

/-- a built-in function -/
def builtinA (T : Tab) (b : Builtin) (ts : Array TypeId) (st : St) (xs : List LV) (k : LV → St → Prop) : Prop := match b, ts.toList, xs with
  | .len, [t], [x] => lenA T t x fun r => k r st
  | .append, [t, t'], [x, y] => match Nat.beq t t' with
    | true => appendA T t st x y k
    | false => appendS T t t' st x y k
  | .min, _, [x, y] => minA x y fun r => k r st
  | .max, _, [x, y] => maxA x y fun r => k r st
  | _, _, _ => False

def callA (P : Program) (T : Tab) (c : Call) (st : St) (k : LV → St → Prop) (kp : Value → St → Prop) : Prop := match c.callee with
  | .builtin b => builtinA T b c.argTypes st (c.args.toList.map (evO st)) k
  | .value f => match evO st f with
    | .v (.func (.func n) a b) => match a.toList, b.toList with
      | [], [] => frcC (c.args.toList.map (evO st)) fun xs => CallA P n xs k kp st
      | _, _ => False
    | .clo (.func n) a b => frcC (a ++ (c.args.toList.map (evO st) ++ b)) fun xs => CallA P n xs k kp st
    | _ => False
  | _ => False

/-- what an operation does, step by step -/
def opA (P : Program) (T : Tab) (o : Oper) (k : LV → St → Prop) (kp : Value → St → Prop) (st : St) : Prop := match o.op with
  | .move x => k (evO st x) st
  | .assign x => k (evO st x) st
  | .pick c a b => condA (evO st c) (k (evO st a) st) (k (evO st b) st)
  | .alloc e => match T.find e with
    | some ti => k (.lp st.next 0) (st.new (.box e ti.zero))
    | none => False
  | .box e x => match cellsA (evO st x) with
    | some cs => frcC cs fun cs => k (.lp st.next 0) (st.new (.box e cs))
    | none => False
  | .load t a => match T.find t with
    | some ti => memA st (evO st a) fun cs off => loadK ti cs off fun x => k x st
    | none => False
  | .store t a x => match T.find t, cellsA (evO st x) with
    | some ti, some xs => match Nat.beq xs.length ti.size with
      | true => storeK st (evO st a) xs fun st' => k .any st'
      | false => False
    | _, _ => False
  | .fieldAddr s x f => match T.find s with
    | some ti => match ti.k with
      | .struct fs => match nth fs f with
        | some p => match T.find p.2 with
          | some te => match Nat.blt 0 te.size with
            | true => addO (evO st x) p.1 fun y => k y st
            | false => False
          | none => False
        | none => False
      | _ => False
    | none => False
  | .field s x f => match T.find s, evO st x with
    | some ti, .agg cs => match ti.k with
      | .struct fs => match nth fs f with
        | some p => match T.find p.2 with
          | some te => loadK te cs p.1 fun y => k y st
          | none => False
        | none => False
      | _ => False
    | _, _ => False
  | .indexAddr t x ix => match T.find t, evO st ix with
    | some ti, .v (.int _ z) => match ti.k with
      | .slice e => match T.find e with
        | some te => match evO st x with
          | .sl sz n g => match Nat.beq sz te.size with
            | true => (0 ≤ z ∧ z < (n : Int)) ∧ k (.sp (g z.toNat) 0) st
            | false => False
          | .ls o n => (0 ≤ z ∧ z < (n : Int)) ∧ k (.el o te.size z.toNat 0) st
          | _ => False
        | none => False
      | .arr n e => match T.find e with
        | some te => (0 ≤ z ∧ z < (n : Int)) ∧ addO (evO st x) (z.toNat * te.size) fun y => k y st
        | none => False
      | _ => False
    | _, _ => False
  | .index t x ix => match T.find t, evO st ix with
    | some ti, .v (.int _ z) => match ti.k with
      | .str => match evO st x with
        | .str l => (0 ≤ z ∧ z < (l.length : Int)) ∧ k (.v (.int .u8 ((l.getD z.toNat 0).toNat : Int))) st
        | _ => False
      | .arr n e => match T.find e, evO st x with
        | some te, .agg cs => (0 ≤ z ∧ z < (n : Int)) ∧ loadK te cs (z.toNat * te.size) fun y => k y st
        | _, _ => False
      | _ => False
    | _, _ => False
  | .slice t x lo hi mx => sliceA T st t (evO st x) lo hi mx fun y => k y st
  | .build t parts => match T.find t with
    | some ti => match ti.k with
      | .struct fs => match fs.all (fun p => (T.find p.2).isSome) with
        | true => match fillA T fs st ti.zero parts.toList with
          | some cs => k (.agg cs) st
          | none => False
        | false => False
      | .arr n e => match T.find e with
        | some te => match fillA T (arrFs e te.size 0 n) st ti.zero parts.toList with
          | some cs => k (.agg cs) st
          | none => False
        | none => False
      | _ => False
    | none => False
  | .buildSlice t n parts => buildSliceA T st t n parts.toList k
  | .binOp op t x y _ => binA P T op t (evO st x) (evO st y) fun r => k r st
  | .unOp op _ x => unA op (evO st x) fun r => k r st
  | .convert s d x => convA T st s d (evO st x) fun r => k r st
  | .extract t i => match evO st t with
    | .tup cs => match nth cs i with
      | some x => k x st
      | none => False
    | _ => False
  | .makeInterface t x => match T.find t, (evO st x).val with
    | some ti, some v => match ti.k.plain with
      | true => k (.v (.iface t v)) st
      | false => False
    | _, _ => False
  | .makeFunc fn a b => k (.clo fn (a.toList.map (evO st)) (b.toList.map (evO st))) st
  | .makeSlice t l c => makeSliceA T st t (evO st l) (evO st c) k
  | .nilCheck x => match evO st x with
    | .lp o off => k (.lp o off) st
    | .el o sz i off => k (.el o sz i off) st
    | .sp cs off => k (.sp cs off) st
    | _ => False
  | .panic x => match evO st x with
    | .v (.iface t v) => kp (.iface t v) st
    | _ => False
  | .call c => callA P T c st k kp
  | _ => False


theorem mem_ops {o : Oper} {tm : Array Value} (h : ∀ x ∈ o.op.operands.toList, okO tm.size x = true) {x : Operand} (hx : x ∈ o.op.operands.toList) : okO tm.size x = true := h x hx

theorem evL {st : St} {m : Me} {tm : Array Value} {ds : List Deferred} (hs : Sim st m tm) : ∀ (l : List Operand), (∀ x ∈ l, okO tm.size x = true) → RepL m st.next (l.map (evO st)) (l.map (Act.eval ⟨tm, ds⟩))
  | [], _ => rfl
  | x :: r, h => ⟨_, _, rfl, hs.ev x (h x (by simp)), evL hs r fun y hy => h y (by simp [hy])⟩

section
variable {P : Program} {T : Tab} {ds : List Deferred} {o : Oper} {k : LV → St → Prop} {kp : Value → St → Prop} {st : St}

theorem semMove {x : Operand} (ho : o.op = .move x ∨ o.op = .assign x) (h : k (evO st x) st) : OpSem P ds o k kp st :=
  OpSem.pure _ h fun org m tm h1 h2 => ⟨_, by rcases ho with ho | ho <;> (simp only [execOp, ho]; rfl), h2.sim.ev x (h1 x (by rcases ho with ho | ho <;> simp [ho, Op.operands]))⟩

theorem semPick {c a b : Operand} (ho : o.op = .pick c a b) (h : condA (evO st c) (k (evO st a) st) (k (evO st b) st)) : OpSem P ds o k kp st :=
  OpSem.val fun org m tm h1 h2 => by
    have e := h2.sim.ev (ds := ds) c (h1 c (by simp [ho, Op.operands]))
    have ea := h2.sim.ev (ds := ds) a (h1 a (by simp [ho, Op.operands]))
    have eb := h2.sim.ev (ds := ds) b (h1 b (by simp [ho, Op.operands]))
    have key : ∀ q : Bool, Act.eval ⟨tm, ds⟩ c = .bool q → (execOp (Act.eval ⟨tm, ds⟩) o).run P m.w = .ok (.value (if q then Act.eval ⟨tm, ds⟩ a else Act.eval ⟨tm, ds⟩ b)) m.w := fun q hq => by
      simp [execOp, ho, hq, asBool]
    unfold condA at h
    split at h
    · rename_i hx; rw [hx] at e; exact ⟨_, _, st, m, key true e, h, h2, ea⟩
    · rename_i hx; rw [hx] at e; exact ⟨_, _, st, m, key false e, h, h2, eb⟩
    · rename_i q hx
      rw [hx] at e
      cases q with
      | true => exact ⟨_, _, st, m, key true e, h.1 rfl, h2, ea⟩
      | false => exact ⟨_, _, st, m, key false e, h.2 rfl, h2, eb⟩
    · exact h.elim

theorem semAlloc (hT : T.Ok P) {e : TypeId} {ti : TI} (hti : T.find e = some ti) (ho : o.op = .alloc e) (h : k (.lp st.next 0) (st.new (.box e ti.zero))) : OpSem P ds o k kp st :=
  OpSem.val fun org m tm h1 h2 => by
    obtain ⟨i, z, h3, h4, h5, h6, _⟩ := (hT.find hti).i
    obtain ⟨q1, q2, q3, _⟩ := zero_rep (hT.find hti) h3 h6 m st.next
    obtain ⟨m', h7, h8, h9⟩ := h2.newBox e ti.zero z.cells.toList q1 q3
    refine ⟨_, _, _, m', ?_, h, h8, h9⟩
    rw [h7]
    simp only [execOp, ho, Instr.alloc, Sem.run_bind, zeroValue, run_typeInfo h3, h6, Result.andThen_ok, Sem.run_pure, newVar, newRow, newObj, Sem.run]
    rfl

theorem semBox {e : TypeId} {x : Operand} {cs : List LV} (hc : cellsA (evO st x) = some cs) (ho : o.op = .box e x) (h : k (.lp st.next 0) (st.new (.box e cs))) : OpSem P ds o k kp st :=
  OpSem.val fun org m tm h1 h2 => by
    obtain ⟨q1, q2⟩ := cellsA_sound hc (h2.sim.ev (ds := ds) x (h1 x (by simp [ho, Op.operands])))
    obtain ⟨m', h7, h8, h9⟩ := h2.newBox e cs _ q1 q2
    refine ⟨_, _, _, m', ?_, h, h8, h9⟩
    rw [h7]
    simp only [execOp, ho, Instr.box, Sem.run_bind, Result.andThen_ok, Sem.run_pure, newVar, newRow, newObj, Sem.run]
    rfl

theorem semLoad (hT : T.Ok P) {t : TypeId} {a : Operand} {ti : TI} (hti : T.find t = some ti) (ho : o.op = .load t a) (h : memA st (evO st a) fun cs off => loadK ti cs off fun x => k x st) : OpSem P ds o k kp st :=
  OpSem.val fun org m tm h1 h2 => by
    obtain ⟨b, o', cs, off, ys, h3, h4, h5, h6⟩ := memA_sound h2.sim h (h2.sim.ev (ds := ds) a (h1 a (by simp [ho, Op.operands])))
    obtain ⟨x, y, h7, h8, h9⟩ := run_loadVar_at (hT.find hti) h6 h5 h3
    refine ⟨y, x, st, m, ?_, h7, h2, h8⟩
    simp only [execOp, ho, h4, Sem.run_bind, Sem.loadAt, h9, Result.andThen_ok]
    rfl

theorem semStore (hT : T.Ok P) {t : TypeId} {a x : Operand} {ti : TI} {xs : List LV} (hti : T.find t = some ti) (hx : cellsA (evO st x) = some xs) (hl : Nat.beq xs.length ti.size = true) (ho : o.op = .store t a x) (h : storeK st (evO st a) xs fun st' => k .any st') : OpSem P ds o k kp st :=
  OpSem.unit fun org m tm h1 h2 => by
    obtain ⟨q1, q2⟩ := cellsA_sound hx (h2.sim.ev (ds := ds) x (h1 x (by simp [ho, Op.operands])))
    obtain ⟨st', m', h3, h4, h5⟩ := storeK_sound (hT.find hti) h2 h (h2.sim.ev (ds := ds) a (h1 a (by simp [ho, Op.operands]))) (Nat.eq_of_beq_eq_true hl) q1 q2
    refine ⟨st', m', ?_, h4, h5⟩
    simp only [execOp, ho, Sem.run_bind, h3, Result.andThen_ok]
    rfl

theorem semPure {x : LV} (hk : k x st) (h : ∀ org m tm, (∀ x ∈ o.op.operands.toList, okO tm.size x = true) → Ok org st m tm → ∃ y, Rep m st.next x y ∧ (execOp (Act.eval ⟨tm, ds⟩) o).run P m.w = .ok (.value y) m.w) : OpSem P ds o k kp st :=
  OpSem.pure x hk fun org m tm h1 h2 => by
    obtain ⟨y, h3, h4⟩ := h org m tm h1 h2
    exact ⟨y, h4, h3⟩

/-- an operation that only reads, in a form that says which value it gives -/
theorem semRead (h : ∀ org m tm, (∀ x ∈ o.op.operands.toList, okO tm.size x = true) → Ok org st m tm → ∃ x y, k x st ∧ Rep m st.next x y ∧ (execOp (Act.eval ⟨tm, ds⟩) o).run P m.w = .ok (.value y) m.w) : OpSem P ds o k kp st :=
  OpSem.val fun org m tm h1 h2 => by
    obtain ⟨x, y, h3, h4, h5⟩ := h org m tm h1 h2
    exact ⟨y, x, st, m, h5, h3, h2, h4⟩

theorem exec_val {s : Sem Value} {w w' : World} {y : Value} (h : s.run P w = .ok y w') : (do Pure.pure (Next.value (← s)) : Sem Next).run P w = .ok (.value y) w' := by
  simp [h]

end

end Go.Proofs.Aw
