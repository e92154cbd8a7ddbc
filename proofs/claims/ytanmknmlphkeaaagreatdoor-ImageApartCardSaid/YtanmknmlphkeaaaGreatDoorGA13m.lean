/- A PART OF THE PROOF: an abstract run of the loaded code over value trees, and the functions walked by it. No condition of its own. -/
import Derived.Test.YtanmknmlphkeaaaGreatDoorA13s
import Derived.Carry
import Derived.Test.YtanmknmlphkeaaaGreatDoorA13
import Derived.Test.YtanmknmlphkeaaaGreatDoorGA10s
namespace Go.Proofs.Aw
open Go Go.RowKit

/-! ### maps of whole numbers to truths -/
def upB (f : Int → Bool) (z : Int) (b : Bool) : Int → Bool := fun x => if x = z then b else f x
def isBz : List LV → Bool
  | [.v (.bool false)] => true
  | _ => false
theorem LO.le.mp {P : Program} {kt et n n' : Nat} {f g : Int → Bool} (hn : n ≤ n') (h : ∀ x, f x = g x) : LO.le (.mp P kt et n f) (.mp P kt et n' g) := by
  intro m N y hr
  obtain ⟨b, D, rfl, h1, h2, h3, h4, h5⟩ := hr
  exact ⟨b, D, rfl, h1, h2, h3.mono hn, h4, fun x hx => by rw [← h x]; exact h5 x hx⟩
def makeMapA (P : Program) (T : Tab) (st : St) (t : TypeId) (k : LV → St → Prop) : Prop := match T.find t with
  | some ti => match ti.k with
    | .map kt et => match T.find kt, T.find et with
      | some tk, some te => match tk.k, te.k with
        | .int .i64, .bool => k (.mp st.next) (st.new (.mp P kt et 0 (fun _ => false)))
        | _, _ => False
      | _, _ => False
    | _ => False
  | none => False
def lookupA (P : Program) (T : Tab) (st : St) (t : TypeId) (x i : LV) (k : LV → Prop) : Prop := match T.find t, x, i with
  | some ti, .mp o, .v (.int .i64 z) => match ti.k with
    | .map kt et => match T.find et, lookO o st.objs with
      | some te, some (.mp P' kt' et' n f) => match (!te.k.agg && isBz te.zero) && (Nat.beq kt kt' && Nat.beq et et') with
        | true => (P' = P ∧ -9223372036854775808 ≤ z ∧ z ≤ 9223372036854775807) ∧ k (.bs (f z))
        | false => False
      | _, _ => False
    | _ => False
  | _, _, _ => False
def mapUpdateA (P : Program) (T : Tab) (st : St) (t : TypeId) (x i v : LV) (k : St → Prop) : Prop := match T.find t, x, i with
  | some ti, .mp o, .v (.int .i64 z) => match ti.k with
    | .map kt et => match lookO o st.objs, boolA v with
      | some (.mp P' kt' et' n f), some b => match Nat.beq kt kt' && Nat.beq et et' with
        | true => (P' = P ∧ -9223372036854775808 ≤ z ∧ z ≤ 9223372036854775807 ∧ n < 1000000) ∧ k (st.setO o (.mp P' kt et (n + 1) (upB f z b)))
        | false => False
      | _, _ => False
    | _ => False
  | _, _, _ => False

theorem bool_zero {P : Program} {e : TypeId} {te : TI} (h : te.ok P e) (hz : isBz te.zero = true) (ha : te.k.agg = false) (w : World) : (zeroValue e).run P w = .ok (.bool false) w := by
  obtain ⟨i, z, h2, h3, h4, h5, h6, h7, h8⟩ := h.i
  have ho := h.o i z h2 h5
  rw [ha] at ho
  have hc := cells_one (y := z) ho
  rw [hc] at h6
  have h6 : [ofConst z] = te.zero := by simpa using h6
  rw [← h6] at hz
  have : z = .bool false := by
    clear h6 hc ho h8 h7 h5 h4 h3 h2
    cases z with
    | bool b => cases b <;> first | rfl | cases hz
    | _ => cases hz
  subst this
  simp [zeroValue, run_typeInfo h2, h5]

theorem wf64 {z : Int} (h0 : -9223372036854775808 ≤ z) (h1 : z ≤ 9223372036854775807) : (Lit.int .i64 z).wf = true := by
  simp only [Lit.wf, Bool.and_eq_true, decide_eq_true_eq]
  have e : IntKind.i64.max = 9223372036854775807 := by decide
  have e' : IntKind.i64.min = -9223372036854775808 := by decide
  omega

theorem makeMapA_sound {P : Program} {T : Tab} (hT : T.Ok P) {org : Me} {st : St} {m : Me} {tm : Array Value} (h2 : Ok org st m tm) {t : TypeId} {k : LV → St → Prop} (h : makeMapA P T st t k) :
    ∃ x st' m' y, (Instr.makeMap t none).run P m.w = .ok y m'.w ∧ k x st' ∧ Ok org st' m' tm ∧ Rep m' st'.next x y := by
  unfold makeMapA at h
  split at h
  rotate_left
  · exact h.elim
  rename_i ti hti
  split at h
  rotate_left
  · exact h.elim
  rename_i kt et hk
  split at h
  rotate_left
  · exact h.elim
  rename_i tk te htk hte
  split at h
  rotate_left
  · exact h.elim
  rename_i hkk hee
  have uk := (hT.find htk).k
  rw [hkk] at uk
  have ue := (hT.find hte).k
  rw [hee] at ue
  have hsz : m.w.heap.size ≤ (m.w.alloc (.map #[] 0)).heap.size := by simp
  have hy : ∀ k, blkOf (.map (some m.w.heap.size)) = some k → k < (m.w.alloc (.map #[] 0)).heap.size := by
    intro k hk
    simp [blkOf] at hk
    simp; omega
  have hg := h2.grow (m.w.alloc (.map #[] 0)) (.map (some m.w.heap.size)) (.mp P kt et 0 (fun _ => false)) none st.objs (sameSys_alloc _ _) hsz hy (fun k hk _ => alloc_old _ _ k hk) (by simp) (fun k ob hk => ⟨hk, by simp⟩)
    (fun k hk => by simp [blkOf] at hk; left; omega) ⟨m.w.heap.size, .map [], rfl, uk, ue, World.ownsMap_made _ _ _ _, Maps.isMap_empty, fun x hx => rfl⟩
  exact ⟨_, _, _, _, rfl, h, hg.1, Nat.lt_succ_self _, hg.2.2.symm, _, hg.2.2⟩

theorem lookupA_sound {P : Program} {T : Tab} (hT : T.Ok P) {org : Me} {st : St} {m : Me} {tm : Array Value} (h2 : Ok org st m tm) {t : TypeId} {x i : LV} {a b : Value} {k : LV → Prop} (h : lookupA P T st t x i k) (ha : Rep m st.next x a) (hb : Rep m st.next i b) :
    ∃ x y, k x ∧ Rep m st.next x y ∧ (Instr.lookup t a b false).run P m.w = .ok y m.w := by
  unfold lookupA at h
  split at h
  rotate_left
  · exact h.elim
  rename_i ti o z hti
  split at h
  rotate_left
  · exact h.elim
  rename_i kt et hk
  split at h
  rotate_left
  · exact h.elim
  rename_i te P' kt' et' n f hte ho
  split at h
  rotate_left
  · exact h.elim
  rename_i hc
  simp only [Bool.and_eq_true] at hc
  obtain ⟨⟨c0, c1⟩, c2, c3⟩ := hc
  have c0 : te.k.agg = false := by simpa using c0
  have c2 := Nat.eq_of_beq_eq_true c2
  have c3 := Nat.eq_of_beq_eq_true c3
  subst c2; subst c3
  obtain ⟨⟨rfl, z0, z1⟩, h⟩ := h
  obtain ⟨_, ⟨bb, D, e1, e2, e3, e4, e5, e6⟩, _⟩ := h2.sim.obj o _ ho
  obtain ⟨_, rfl, b', e7⟩ := ha
  have hb : b = .int .i64 z := hb
  subst hb
  have ut := (hT.find hti).k
  rw [hk] at ut
  have wf := wf64 z0 z1
  obtain ⟨v, ps, r1, r2⟩ := World.ownsMap.lookup e4 (Maps.int_keyed e2) ut (bool_zero (hT.find hte) c1 c0 m.w) (plainElem_bool e3 false) (Maps.keyOf_int_mk e2 wf)
  rw [e6 z wf] at r2
  rw [e1]
  refine ⟨_, v, h, ?_, r1⟩
  show v = .bool (f z)
  unfold plainElem at r2
  rw [e3] at r2
  cases v <;> simp at r2
  rw [r2.1]

theorem mapUpdateA_sound {P : Program} {T : Tab} (hT : T.Ok P) {org : Me} {st : St} {m : Me} {tm : Array Value} (h2 : Ok org st m tm) {t : TypeId} {x i v : LV} {a b c : Value} {k : St → Prop} (h : mapUpdateA P T st t x i v k) (ha : Rep m st.next x a) (hb : Rep m st.next i b) (hc : Rep m st.next v c) :
    ∃ st' m', (Instr.mapUpdate t a b c).run P m.w = .ok () m'.w ∧ k st' ∧ Ok org st' m' tm := by
  unfold mapUpdateA at h
  split at h
  rotate_left
  · exact h.elim
  rename_i ti o z hti
  split at h
  rotate_left
  · exact h.elim
  rename_i kt et hk
  split at h
  rotate_left
  · exact h.elim
  rename_i P' kt' et' n f q ho hq
  split at h
  rotate_left
  · exact h.elim
  rename_i hcc
  simp only [Bool.and_eq_true] at hcc
  obtain ⟨c2, c3⟩ := hcc
  have c2 := Nat.eq_of_beq_eq_true c2
  have c3 := Nat.eq_of_beq_eq_true c3
  subst c2; subst c3
  obtain ⟨⟨rfl, z0, z1, hn⟩, h⟩ := h
  obtain ⟨l0, ⟨bb, D, e1, e2, e3, e4, e5, e6⟩, l2⟩ := h2.sim.obj o _ ho
  obtain ⟨_, rfl, b', e7⟩ := ha
  have hb : b = .int .i64 z := hb
  subst hb
  have hq : c = .bool q := boolA_sound hq hc
  subst hq
  have ut := (hT.find hti).k
  rw [hk] at ut
  have wf := wf64 z0 z1
  obtain ⟨w', r1, r2, r3⟩ := World.ownsMap.update e4 (Maps.int_keyed e2) ut (show n < maxLen by have : maxLen = 9223372036854775807 := rfl; omega) (Maps.keyOf_int_mk e2 wf) (plainElem_bool e3 q)
  have hsz : m.w.heap.size ≤ w'.heap.size := r3.size
  have hw := h2.write w' o _ (.mp P' kt et (n + 1) (upB f z q)) ho ⟨r3.os, r3.tape, r3.output⟩ hsz (fun k hk1 hk2 => r3.block k hk1 (fun e => hk2 (by rw [e1]; exact e.symm)))
    ⟨bb, D.put (.int .i64 z) (.lit (.bool q)), e1, e2, e3, r2, e5.put _ _, fun y hy => by
      by_cases ey : y = z
      · subst ey
        rw [Maps.atKey_put_same e5 (show WideAt.IsKeyLit (.int .i64 y) from trivial), upB, if_pos rfl]
      · rw [Maps.atKey_put_other (fun e => ey (by injection e)), e6 y hy, upB, if_neg ey]⟩
  rw [e1]
  exact ⟨_, _, r1, h, hw.1⟩
end Go.Proofs.Aw
namespace Go.Proofs.Aw
open Go Go.RowKit

mutual
/-- the value itself, where nothing in it lies in memory -/
def LV.val : LV → Option Value
  | .v x => some x
  | .bs b => some (.bool b)
  | .ly _ _ x => some x
  | .str l => some (strV l)
  | .agg cs => match valL cs with
    | some ys => some (.agg ys.toArray)
    | none => none
  | _ => none
def valL : List LV → Option (List Value)
  | [] => some []
  | x :: xs => match x.val, valL xs with
    | some y, some ys => some (y :: ys)
    | _, _ => none
end
mutual
theorem LV.val_sound {m : Me} {N : Nat} : ∀ {x : LV} {y v : Value}, x.val = some v → Rep m N x y → y = v
  | .v _, _, _, h, hr => by simp only [LV.val, Option.some.injEq] at h; subst h; exact hr
  | .bs _, _, _, h, hr => by simp only [LV.val, Option.some.injEq] at h; subst h; exact hr
  | .ly _ _ _, _, _, h, hr => by simp only [LV.val, Option.some.injEq] at h; subst h; exact hr.1
  | .str _, _, _, h, hr => by simp only [LV.val, Option.some.injEq] at h; subst h; exact hr
  | .agg cs, y, v, h, hr => by
    simp only [LV.val] at h
    obtain ⟨ys, rfl, h1, _⟩ := hr
    split at h
    · rename_i zs hz
      simp only [Option.some.injEq] at h
      subst h
      rw [valL_sound hz h1]
    · cases h
  | .any, _, _, h, _ => by simp [LV.val] at h
  | .tup _, _, _, h, _ => by simp [LV.val] at h
  | .sl _ _ _, _, _, h, _ => by simp [LV.val] at h
  | .sp _ _, _, _, h, _ => by simp [LV.val] at h
  | .lp _ _, _, _, h, _ => by simp [LV.val] at h
  | .el _ _ _ _, _, _, h, _ => by simp [LV.val] at h
  | .ls _ _, _, _, h, _ => by simp [LV.val] at h
  | .as _ _ _, _, _, h, _ => by simp [LV.val] at h
  | .clo _ _ _, _, _, h, _ => by simp [LV.val] at h
theorem valL_sound {m : Me} {N : Nat} : ∀ {xs : List LV} {ys vs : List Value}, valL xs = some vs → RepL m N xs ys → ys = vs
  | [], ys, vs, h, hr => by simp only [valL, Option.some.injEq] at h; subst h; exact hr
  | x :: xs, ys, vs, h, hr => by
    simp only [valL] at h
    obtain ⟨y, r, rfl, h1, h2⟩ := hr
    split at h
    · rename_i a b ha hb
      simp only [Option.some.injEq] at h
      subst h
      rw [LV.val_sound ha h1, valL_sound hb h2]
    · cases h
end

def TK.plain : TK → Bool
  | .iface => false
  | .other => false
  | _ => true

def lenA (T : Tab) (t : TypeId) (x : LV) (K : LV → Prop) : Prop := match T.find t with
  | none => False
  | some ti => match ti.k with
    | .str => match x with
      | .str l => K (.v (.int .i64 (l.length : Int)))
      | _ => False
    | .arr n _ => K (.v (.int .i64 (n : Int)))
    | .slice _ => match x with
      | .sl _ n _ => K (.v (.int .i64 (n : Int)))
      | .ls _ n => K (.v (.int .i64 (n : Int)))
      | .v (.slice _ n _) => K (.v (.int .i64 (n : Int)))
      | _ => False
    | _ => False

theorem lenA_sound {P : Program} {T : Tab} (hT : T.Ok P) {t ty : TypeId} {m : Me} {N : Nat} {x : LV} {K : LV → Prop} {y : Value} (h : lenA T t x K) (hr : Rep m N x y) (w : World) :
    ∃ r v, K r ∧ Rep m N r v ∧ (Builtin.len_ #[t] ty #[y]).run P w = .ok v w := by
  unfold lenA at h
  split at h
  · exact h.elim
  rename_i ti hti
  have hok := (hT.find hti).k
  split at h
  · rename_i hk
    rw [hk] at hok
    split at h
    · rename_i l
      have : y = strV l := hr
      subst this
      exact ⟨_, _, h, rfl, by simp [Builtin.len_, run_underlying hok, strV, goInt, strV_size]⟩
    · exact h.elim
  · rename_i n e hk
    rw [hk] at hok
    exact ⟨_, _, h, rfl, by simp [Builtin.len_, run_underlying hok, goInt]⟩
  · rename_i e hk
    rw [hk] at hok
    split at h
    · obtain ⟨A, cap, rfl, _⟩ := hr
      exact ⟨_, _, h, rfl, by simp [Builtin.len_, run_underlying hok, goInt]⟩
    · obtain ⟨_, h1, A, c, h2, _⟩ := hr
      rw [h2] at h1
      subst h1
      exact ⟨_, _, h, rfl, by simp [Builtin.len_, run_underlying hok, goInt]⟩
    · rename_i A n c
      have : y = .slice A n c := hr
      subst this
      exact ⟨_, _, h, rfl, by simp [Builtin.len_, run_underlying hok, goInt]⟩
    · exact h.elim
  · exact h.elim

def minA (x y : LV) (K : LV → Prop) : Prop := match x, y with
  | .v (.int k a), .v (.int _ b) => K (.v (.int k (if b < a then b else a)))
  | _, _ => False
def maxA (x y : LV) (K : LV → Prop) : Prop := match x, y with
  | .v (.int k a), .v (.int _ b) => K (.v (.int k (if b > a then b else a)))
  | _, _ => False

/-- a built-in function -/
def builtinA (T : Tab) (b : Builtin) (ts : Array TypeId) (st : St) (xs : List LV) (k : LV → St → Prop) : Prop := match b, ts.toList, xs with
  | .len, [t], [x] => lenA T t x fun r => k r st
  | .append, [t, t'], [x, y] => match Nat.beq t t' with
    | true => appendA T t st x y k
    | false => appendS T t t' st x y k
  | .copy, [t, _], [x, y] => copyA T t st x y k
  | .min, _, [x, y] => minA x y fun r => k r st
  | .max, _, [x, y] => maxA x y fun r => k r st
  | _, _, _ => False

def callA (P : Program) (T : Tab) (c : Call) (st : St) (k : LV → St → Prop) (kp : Value → St → Prop) : Prop := match c.callee with
  | .builtin b => builtinA T b c.argTypes st (c.args.toList.map (evO st)) k
  | .value f => match evO st f with
    | .v (.func (.func n) a b) => match a.toList, b.toList with
      | [], [] => frcC (c.args.toList.map (evO st)) fun xs => CallA P n xs k kp st
      | _, _ => False
    | .clo (.func n) a b => frcC (a ++ (c.args.toList.map (evO st) ++ b)) fun xs => CallA P n xs k kp st
    | _ => False
  | _ => False

/-- what an operation does, step by step -/
def opA (P : Program) (T : Tab) (o : Oper) (k : LV → St → Prop) (kp : Value → St → Prop) (st : St) : Prop := match o.op with
  | .move x => k (evO st x) st
  | .assign x => k (evO st x) st
  | .pick c a b => condA (evO st c) (k (evO st a) st) (k (evO st b) st)
  | .alloc e => match T.find e with
    | some ti => k (.lp st.next 0) (st.new (.box e ti.zero))
    | none => False
  | .box e x => match cellsA (evO st x) with
    | some cs => frcC cs fun cs => k (.lp st.next 0) (st.new (.box e cs))
    | none => False
  | .load t a => match T.find t with
    | some ti => memA st (evO st a) fun cs off => loadK ti cs off fun x => k x st
    | none => False
  | .store t a x => match T.find t, cellsA (evO st x) with
    | some ti, some xs => match Nat.beq xs.length ti.size with
      | true => storeK st (evO st a) xs fun st' => k .any st'
      | false => False
    | _, _ => False
  | .fieldAddr s x f => match T.find s with
    | some ti => match ti.k with
      | .struct fs => match nth fs f with
        | some p => match T.find p.2 with
          | some te => match Nat.blt 0 te.size with
            | true => addO (evO st x) p.1 fun y => k y st
            | false => False
          | none => False
        | none => False
      | _ => False
    | none => False
  | .field s x f => match T.find s, evO st x with
    | some ti, .agg cs => match ti.k with
      | .struct fs => match nth fs f with
        | some p => match T.find p.2 with
          | some te => loadK te cs p.1 fun y => k y st
          | none => False
        | none => False
      | _ => False
    | _, _ => False
  | .indexAddr t x ix => match T.find t, evO st ix with
    | some ti, .v (.int _ z) => match ti.k with
      | .slice e => match T.find e with
        | some te => match evO st x with
          | .sl sz n g => match Nat.beq sz te.size with
            | true => (0 ≤ z ∧ z < (n : Int)) ∧ k (.sp (g z.toNat) 0) st
            | false => False
          | .ls o n => (0 ≤ z ∧ z < (n : Int)) ∧ k (.el o te.size z.toNat 0) st
          | _ => False
        | none => False
      | .arr n e => match T.find e with
        | some te => (0 ≤ z ∧ z < (n : Int)) ∧ addO (evO st x) (z.toNat * te.size) fun y => k y st
        | none => False
      | _ => False
    | _, _ => False
  | .index t x ix => match T.find t, evO st ix with
    | some ti, .v (.int _ z) => match ti.k with
      | .str => match evO st x with
        | .str l => (0 ≤ z ∧ z < (l.length : Int)) ∧ k (.v (.int .u8 ((l.getD z.toNat 0).toNat : Int))) st
        | _ => False
      | .arr n e => match T.find e, evO st x with
        | some te, .agg cs => (0 ≤ z ∧ z < (n : Int)) ∧ loadK te cs (z.toNat * te.size) fun y => k y st
        | _, _ => False
      | _ => False
    | _, _ => False
  | .slice t x lo hi mx => sliceA T st t (evO st x) lo hi mx fun y => k y st
  | .build t parts => match T.find t with
    | some ti => match ti.k with
      | .struct fs => match fs.all (fun p => (T.find p.2).isSome) with
        | true => match fillA T fs st ti.zero parts.toList with
          | some cs => k (.agg cs) st
          | none => False
        | false => False
      | .arr n e => match T.find e with
        | some te => match fillA T (arrFs e te.size 0 n) st ti.zero parts.toList with
          | some cs => k (.agg cs) st
          | none => False
        | none => False
      | _ => False
    | none => False
  | .buildSlice t n parts => buildSliceA T st t n parts.toList k
  | .binOp op t x y _ => binA P T op t (evO st x) (evO st y) fun r => k r st
  | .unOp op _ x => unA op (evO st x) fun r => k r st
  | .convert s d x => convA T st s d (evO st x) fun r => k r st
  | .extract t i => match evO st t with
    | .tup cs => match nth cs i with
      | some x => k x st
      | none => False
    | _ => False
  | .makeInterface t x => match T.find t, (evO st x).val with
    | some ti, some v => match ti.k.plain with
      | true => k (.v (.iface t v)) st
      | false => False
    | _, _ => False
  | .makeFunc fn a b => k (.clo fn (a.toList.map (evO st)) (b.toList.map (evO st))) st
  | .makeSlice t l c => makeSliceA T st t (evO st l) (evO st c) k
  | .nilCheck x => match evO st x with
    | .lp o off => k (.lp o off) st
    | .el o sz i off => k (.el o sz i off) st
    | .sp cs off => k (.sp cs off) st
    | _ => False
  | .panic x => match evO st x with
    | .v (.iface t v) => kp (.iface t v) st
    | _ => False
  | .call c => callA P T c st k kp
  | .makeMap t none => makeMapA P T st t k
  | .lookup t x i false => lookupA P T st t (evO st x) (evO st i) fun r => k r st
  | .mapUpdate t x i v => mapUpdateA P T st t (evO st x) (evO st i) (evO st v) fun st' => k .any st'
  | _ => False


theorem mem_ops {o : Oper} {tm : Array Value} (h : ∀ x ∈ o.op.operands.toList, okO tm.size x = true) {x : Operand} (hx : x ∈ o.op.operands.toList) : okO tm.size x = true := h x hx

theorem evL {st : St} {m : Me} {tm : Array Value} {ds : List Deferred} (hs : Sim st m tm) : ∀ (l : List Operand), (∀ x ∈ l, okO tm.size x = true) → RepL m st.next (l.map (evO st)) (l.map (Act.eval ⟨tm, ds⟩))
  | [], _ => rfl
  | x :: r, h => ⟨_, _, rfl, hs.ev x (h x (by simp)), evL hs r fun y hy => h y (by simp [hy])⟩

section
variable {P : Program} {T : Tab} {ds : List Deferred} {o : Oper} {k : LV → St → Prop} {kp : Value → St → Prop} {st : St}

theorem semMove {x : Operand} (ho : o.op = .move x ∨ o.op = .assign x) (h : k (evO st x) st) : OpSem P ds o k kp st :=
  OpSem.pure _ h fun org m tm h1 h2 => ⟨_, by rcases ho with ho | ho <;> (simp only [execOp, ho]; rfl), h2.sim.ev x (h1 x (by rcases ho with ho | ho <;> simp [ho, Op.operands]))⟩

theorem semPick {c a b : Operand} (ho : o.op = .pick c a b) (h : condA (evO st c) (k (evO st a) st) (k (evO st b) st)) : OpSem P ds o k kp st :=
  OpSem.val fun org m tm h1 h2 => by
    have e := h2.sim.ev (ds := ds) c (h1 c (by simp [ho, Op.operands]))
    have ea := h2.sim.ev (ds := ds) a (h1 a (by simp [ho, Op.operands]))
    have eb := h2.sim.ev (ds := ds) b (h1 b (by simp [ho, Op.operands]))
    have key : ∀ q : Bool, Act.eval ⟨tm, ds⟩ c = .bool q → (execOp (Act.eval ⟨tm, ds⟩) o).run P m.w = .ok (.value (if q then Act.eval ⟨tm, ds⟩ a else Act.eval ⟨tm, ds⟩ b)) m.w := fun q hq => by
      simp [execOp, ho, hq, asBool]
    unfold condA at h
    split at h
    · rename_i hx; rw [hx] at e; exact ⟨_, _, st, m, key true e, h, h2, ea⟩
    · rename_i hx; rw [hx] at e; exact ⟨_, _, st, m, key false e, h, h2, eb⟩
    · rename_i q hx
      rw [hx] at e
      cases q with
      | true => exact ⟨_, _, st, m, key true e, h.1 rfl, h2, ea⟩
      | false => exact ⟨_, _, st, m, key false e, h.2 rfl, h2, eb⟩
    · exact h.elim

theorem semAlloc (hT : T.Ok P) {e : TypeId} {ti : TI} (hti : T.find e = some ti) (ho : o.op = .alloc e) (h : k (.lp st.next 0) (st.new (.box e ti.zero))) : OpSem P ds o k kp st :=
  OpSem.val fun org m tm h1 h2 => by
    obtain ⟨i, z, h3, h4, h5, h6, _⟩ := (hT.find hti).i
    obtain ⟨q1, q2, q3, _⟩ := zero_rep (hT.find hti) h3 h6 m st.next
    obtain ⟨m', h7, h8, h9⟩ := h2.newBox e ti.zero z.cells.toList q1 q3
    refine ⟨_, _, _, m', ?_, h, h8, h9⟩
    rw [h7]
    simp only [execOp, ho, Instr.alloc, Sem.run_bind, zeroValue, run_typeInfo h3, h6, Result.andThen_ok, Sem.run_pure, newVar, newRow, newObj, Sem.run]
    rfl

theorem semBox {e : TypeId} {x : Operand} {cs : List LV} (hc : cellsA (evO st x) = some cs) (ho : o.op = .box e x) (h : k (.lp st.next 0) (st.new (.box e cs))) : OpSem P ds o k kp st :=
  OpSem.val fun org m tm h1 h2 => by
    obtain ⟨q1, q2⟩ := cellsA_sound hc (h2.sim.ev (ds := ds) x (h1 x (by simp [ho, Op.operands])))
    obtain ⟨m', h7, h8, h9⟩ := h2.newBox e cs _ q1 q2
    refine ⟨_, _, _, m', ?_, h, h8, h9⟩
    rw [h7]
    simp only [execOp, ho, Instr.box, Sem.run_bind, Result.andThen_ok, Sem.run_pure, newVar, newRow, newObj, Sem.run]
    rfl

theorem semLoad (hT : T.Ok P) {t : TypeId} {a : Operand} {ti : TI} (hti : T.find t = some ti) (ho : o.op = .load t a) (h : memA st (evO st a) fun cs off => loadK ti cs off fun x => k x st) : OpSem P ds o k kp st :=
  OpSem.val fun org m tm h1 h2 => by
    obtain ⟨b, o', cs, off, ys, h3, h4, h5, h6⟩ := memA_sound h2.sim h (h2.sim.ev (ds := ds) a (h1 a (by simp [ho, Op.operands])))
    obtain ⟨x, y, h7, h8, h9⟩ := run_loadVar_at (hT.find hti) h6 h5 h3
    refine ⟨y, x, st, m, ?_, h7, h2, h8⟩
    simp only [execOp, ho, h4, Sem.run_bind, Sem.loadAt, h9, Result.andThen_ok]
    rfl

theorem semStore (hT : T.Ok P) {t : TypeId} {a x : Operand} {ti : TI} {xs : List LV} (hti : T.find t = some ti) (hx : cellsA (evO st x) = some xs) (hl : Nat.beq xs.length ti.size = true) (ho : o.op = .store t a x) (h : storeK st (evO st a) xs fun st' => k .any st') : OpSem P ds o k kp st :=
  OpSem.unit fun org m tm h1 h2 => by
    obtain ⟨q1, q2⟩ := cellsA_sound hx (h2.sim.ev (ds := ds) x (h1 x (by simp [ho, Op.operands])))
    obtain ⟨st', m', h3, h4, h5⟩ := storeK_sound (hT.find hti) h2 h (h2.sim.ev (ds := ds) a (h1 a (by simp [ho, Op.operands]))) (Nat.eq_of_beq_eq_true hl) q1 q2
    refine ⟨st', m', ?_, h4, h5⟩
    simp only [execOp, ho, Sem.run_bind, h3, Result.andThen_ok]
    rfl

theorem semPure {x : LV} (hk : k x st) (h : ∀ org m tm, (∀ x ∈ o.op.operands.toList, okO tm.size x = true) → Ok org st m tm → ∃ y, Rep m st.next x y ∧ (execOp (Act.eval ⟨tm, ds⟩) o).run P m.w = .ok (.value y) m.w) : OpSem P ds o k kp st :=
  OpSem.pure x hk fun org m tm h1 h2 => by
    obtain ⟨y, h3, h4⟩ := h org m tm h1 h2
    exact ⟨y, h4, h3⟩

/-- an operation that only reads, in a form that says which value it gives -/
theorem semRead (h : ∀ org m tm, (∀ x ∈ o.op.operands.toList, okO tm.size x = true) → Ok org st m tm → ∃ x y, k x st ∧ Rep m st.next x y ∧ (execOp (Act.eval ⟨tm, ds⟩) o).run P m.w = .ok (.value y) m.w) : OpSem P ds o k kp st :=
  OpSem.val fun org m tm h1 h2 => by
    obtain ⟨x, y, h3, h4, h5⟩ := h org m tm h1 h2
    exact ⟨y, x, st, m, h5, h3, h2, h4⟩

theorem exec_val {s : Sem Value} {w w' : World} {y : Value} (h : s.run P w = .ok y w') : (do Pure.pure (Next.value (← s)) : Sem Next).run P w = .ok (.value y) w' := by
  simp [h]

end

end Go.Proofs.Aw
namespace Go.Proofs.Aw
open Go Go.RowKit


theorem mapM_places {P : Program} {T : Tab} (hT : T.Ok P) : ∀ (l : List Field), (∀ f ∈ l, (T.find f.type).isSome = true) → l.mapM (fun f => (P.info? f.type).map fun i => (f.offset, i.size)) = some (l.map fun f => (f.offset, match T.find f.type with | some ti => ti.size | none => 0))
  | [], _ => rfl
  | f :: r, h => by
    obtain ⟨ti, hti⟩ := Option.isSome_iff_exists.1 (h f (by simp))
    obtain ⟨i, z, h1, h2, _⟩ := (hT.find hti).i
    have ih := mapM_places hT r fun g hg => h g (by simp [hg])
    simp only [List.mapM_cons, h1, Option.map_some, ih, List.map_cons, hti, h2]
    rfl

theorem build_struct {P : Program} {T : Tab} (hT : T.Ok P) {t : TypeId} {ti : TI} (hti : T.find t = some ti) {fs : List (Nat × TypeId)} (hk : ti.k = .struct fs) (hall : fs.all (fun p => (T.find p.2).isSome) = true) {st : St} {m : Me} {tm : Array Value} {ds : List Deferred} (hs : Sim st m tm)
    {parts : List (Nat × Operand)} {cs : List LV} (h : fillA T fs st ti.zero parts = some cs) (ho : ∀ p ∈ parts, okO tm.size p.2 = true) :
    ∃ v, (Instr.build t (parts.map fun p => (p.1, Act.eval ⟨tm, ds⟩ p.2)).toArray).run P m.w = .ok v m.w ∧ Rep m st.next (.agg cs) v := by
  have hok := hT.find hti
  have h1 := hok.k
  rw [hk] at h1
  obtain ⟨a, h2, h3⟩ := h1
  obtain ⟨i, z, h4, h5, h6, h7, _⟩ := hok.i
  obtain ⟨q1, q2, q3, _⟩ := zero_rep hok h4 h7 m st.next
  have hpl := mapM_places hT a.toList (fun f hf => by
    have := List.all_eq_true.1 hall (f.offset, f.type) (by rw [← h3]; exact List.mem_map.2 ⟨f, hf, rfl⟩)
    exact this)
  obtain ⟨ys, h8, h9, h10⟩ := fillA_sound (P := P) hT (ds := ds) hs (fun i => (a.toList.map fun f => (f.offset, match T.find f.type with | some ti => ti.size | none => 0))[i]?) (fun i p ti' hp hti' => by
      rw [nth_eq, ← h3] at hp
      simp only [List.getElem?_map, Option.map_eq_some_iff] at hp
      obtain ⟨f, hf, rfl⟩ := hp
      simp only [List.getElem?_map, hf, Option.map_some]
      have hti'' : T.find f.type = some ti' := hti'
      rw [hti'']) parts ti.zero cs z.cells.toList h q1 q3 ho
  refine ⟨.agg ys.toArray, ?_, ys, rfl, h9, h10⟩
  have h8' : Instr.fill (fun i => (a.toList.map fun f => (f.offset, match T.find f.type with | some ti => ti.size | none => 0))[i]?) z.cells (parts.map fun p => (p.1, Act.eval ⟨tm, ds⟩ p.2)) = some ys.toArray := h8
  simp only [Instr.build, Sem.run_bind, typeInfo, zeroValue, program, Sem.run, h4, h7, Result.andThen_ok, Sem.run_pure, run_underlying h2]
  have hm : (Array.mapM (fun f => do Pure.pure (f.offset, ← sizeOf f.type)) a : Sem (Array (Nat × Nat))).run P m.w = .ok (a.toList.map fun f => (f.offset, match T.find f.type with | some ti => ti.size | none => 0)).toArray m.w := by
    rw [Array.mapM_eq_mapM_toList]
    have := run_places (P := P) m.w _ _ hpl
    simp [this]
  simp only [hm, Result.andThen_ok, List.getElem?_toArray, h8', Sem.run_pure]

theorem build_arr {P : Program} {T : Tab} (hT : T.Ok P) {t e n : Nat} {ti te : TI} (hti : T.find t = some ti) (hk : ti.k = .arr n e) (hte : T.find e = some te) {st : St} {m : Me} {tm : Array Value} {ds : List Deferred} (hs : Sim st m tm)
    {parts : List (Nat × Operand)} {cs : List LV} (h : fillA T (arrFs e te.size 0 n) st ti.zero parts = some cs) (ho : ∀ p ∈ parts, okO tm.size p.2 = true) :
    ∃ v, (Instr.build t (parts.map fun p => (p.1, Act.eval ⟨tm, ds⟩ p.2)).toArray).run P m.w = .ok v m.w ∧ Rep m st.next (.agg cs) v := by
  have hok := hT.find hti
  have h1 := hok.k
  rw [hk] at h1
  obtain ⟨i, z, h4, h5, h6, h7, _⟩ := hok.i
  obtain ⟨q1, q2, q3, _⟩ := zero_rep hok h4 h7 m st.next
  obtain ⟨ys, h8, h9, h10⟩ := fillA_sound (P := P) hT (ds := ds) hs (fun i => some (i * te.size, te.size)) (fun i p ti' hp hti' => by
      obtain ⟨h1, _⟩ := arrFs_get e te.size n 0 i p hp
      subst h1
      simp only [Nat.zero_add]
      have : ti' = te := by
        have h12 : T.find e = some ti' := hti'
        rw [hte] at h12
        exact (Option.some.inj h12).symm
      rw [this]) parts ti.zero cs z.cells.toList h q1 q3 ho
  refine ⟨.agg ys.toArray, ?_, ys, rfl, h9, h10⟩
  have h8' : Instr.fill (fun i => some (i * te.size, te.size)) z.cells (parts.map fun p => (p.1, Act.eval ⟨tm, ds⟩ p.2)) = some ys.toArray := h8
  simp only [Instr.build, Sem.run_bind, typeInfo, zeroValue, program, Sem.run, h4, h7, Result.andThen_ok, Sem.run_pure, run_underlying h1, run_sizeOf (hT.find hte), h8']

theorem map_arr {α β : Type} (a : Array α) (f : α → β) : a.map f = (a.toList.map f).toArray := by
  apply Array.ext'
  rw [Array.toList_map]

theorem exec_value {s : Sem Value} {P : Program} {w w' : World} {y : Value} (h : s.run P w = .ok y w') : (do Pure.pure (Next.value (← s)) : Sem Next).run P w = .ok (.value y) w' := by
  simp [h]

theorem run_makeInterface' {P : Program} {t : TypeId} {ti : TI} (h : ti.ok P t) (hp : ti.k.plain = true) (x : Value) (w : World) : (Instr.makeInterface t x).run P w = .ok (.iface t x) w := by
  have h1 := h.k
  cases hk : ti.k <;> rw [hk] at h1 hp <;> first | (cases hp) | skip
  all_goals first
    | (simp [Instr.makeInterface, run_underlying h1]; done)
    | (obtain ⟨a, h2, _⟩ := h1; simp [Instr.makeInterface, run_underlying h2])

theorem opA_sound {P : Program} {T : Tab} (hT : T.Ok P) {ds : List Deferred} {o : Oper} {k : LV → St → Prop} {kp : Value → St → Prop} {st : St} (h : opA P T o k kp st) : OpSem P ds o k kp st := by
  unfold opA at h
  split at h
  · rename_i x ho; exact semMove (.inl ho) h
  · rename_i x ho; exact semMove (.inr ho) h
  · rename_i c a b ho; exact semPick ho h
  · rename_i e ho
    split at h
    · rename_i ti hti; exact semAlloc hT hti ho h
    · exact h.elim
  · rename_i e x ho
    split at h
    · rename_i cs hc; rw [frcC_eq] at h; exact semBox hc ho h
    · exact h.elim
  · rename_i t a ho
    split at h
    · rename_i ti hti; exact semLoad hT hti ho h
    · exact h.elim
  · rename_i t a x ho
    split at h
    · rename_i ti xs hti hx
      split at h
      · rename_i hl; exact semStore hT hti hx hl ho h
      · exact h.elim
    · exact h.elim
  · -- fieldAddr
    rename_i s x f ho
    split at h
    rotate_left
    · exact h.elim
    rename_i ti hti
    split at h
    rotate_left
    · exact h.elim
    rename_i fs hk
    split at h
    rotate_left
    · exact h.elim
    rename_i p hp
    split at h
    rotate_left
    · exact h.elim
    rename_i te hte
    split at h
    rotate_left
    · exact h.elim
    rename_i h0
    refine semRead fun org m tm h1 h2 => ?_
    obtain ⟨y, b, off, h3, h4, h5⟩ := addO_sound h (h2.sim.ev (ds := ds) x (h1 x (by simp [ho, Op.operands])))
    refine ⟨y, _, h3, h5, ?_⟩
    simp only [execOp, ho, h4]
    exact exec_value (run_fieldAt (hT.find hti) hk hp (hT.find hte) h0 m.w b off)
  · -- field
    rename_i s x f ho
    split at h
    rotate_left
    · exact h.elim
    rename_i ti cs hti hx
    split at h
    rotate_left
    · exact h.elim
    rename_i fs hk
    split at h
    rotate_left
    · exact h.elim
    rename_i p hp
    split at h
    rotate_left
    · exact h.elim
    rename_i te hte
    refine semRead fun org m tm h1 h2 => ?_
    have e := h2.sim.ev (ds := ds) x (h1 x (by simp [ho, Op.operands]))
    rw [hx] at e
    obtain ⟨ys, h3, h4, h5⟩ := e
    obtain ⟨r, v, h6, h7, h8⟩ := run_field (hT.find hti) hk hp (hT.find hte) h4 h5 h m.w
    refine ⟨r, v, h6, h7, ?_⟩
    simp only [execOp, ho, h3]
    exact exec_value h8
  · -- indexAddr
    rename_i t x ix ho
    split at h
    rotate_left
    · exact h.elim
    rename_i ti ik z hti hix
    have hok := (hT.find hti).k
    split at h
    · rename_i e hk
      rw [hk] at hok
      split at h
      rotate_left
      · exact h.elim
      rename_i te hte
      split at h
      · rename_i sz n g hx
        split at h
        rotate_left
        · exact h.elim
        rename_i hsz
        have hsz := Nat.eq_of_beq_eq_true hsz
        subst hsz
        obtain ⟨⟨h0, hn⟩, h⟩ := h
        refine semRead fun org m tm h1 h2 => ?_
        have e1 := h2.sim.ev (ds := ds) x (h1 x (by simp [ho, Op.operands]))
        have e2 := h2.sim.ev (ds := ds) ix (h1 ix (by simp [ho, Op.operands]))
        rw [hx] at e1
        rw [hix] at e2
        obtain ⟨A, cap, h3, h4, h5, h6, h7⟩ := e1
        obtain ⟨b, off, rfl, h8, h9, h10⟩ := h7 (by omega)
        obtain ⟨ys, h11, h12, h13⟩ := h10 z.toNat (by omega)
        refine ⟨_, _, h, ⟨b, off + z.toNat * te.size, ys, rfl, h8, h9, h11, h13⟩, ?_⟩
        have e2 : Act.eval ⟨tm, ds⟩ ix = .int ik z := e2
        simp only [execOp, ho, h3, e2]
        exact exec_value (run_indexAt_sl hok (hT.find hte) ik z n cap h0 hn m.w b off)
      · rename_i o' n hx
        obtain ⟨⟨h0, hn⟩, h⟩ := h
        refine semRead fun org m tm h1 h2 => ?_
        have e1 := h2.sim.ev (ds := ds) x (h1 x (by simp [ho, Op.operands]))
        have e2 := h2.sim.ev (ds := ds) ix (h1 ix (by simp [ho, Op.operands]))
        rw [hx] at e1
        rw [hix] at e2
        obtain ⟨h3, h4, A, c, h5, h6⟩ := e1
        rcases h6 with ⟨_, h7⟩ | ⟨b, rfl⟩
        · omega
        · refine ⟨_, .pointer (some ⟨b, z.toNat * te.size, none⟩), h, ⟨h3, b, n, c, h5, by omega, by simp⟩, ?_⟩
          have e2 : Act.eval ⟨tm, ds⟩ ix = .int ik z := e2
          rw [h5] at h4
          simp only [execOp, ho, h4, e2]
          have := run_indexAt_sl (P := P) hok (hT.find hte) ik z n c h0 hn m.w b 0
          rw [Nat.zero_add] at this
          exact exec_value this
      · exact h.elim
    · rename_i n e hk
      rw [hk] at hok
      split at h
      rotate_left
      · exact h.elim
      rename_i te hte
      obtain ⟨⟨h0, hn⟩, h⟩ := h
      refine semRead fun org m tm h1 h2 => ?_
      have e2 := h2.sim.ev (ds := ds) ix (h1 ix (by simp [ho, Op.operands]))
      rw [hix] at e2
      obtain ⟨y, b, off, h3, h4, h5⟩ := addO_sound h (h2.sim.ev (ds := ds) x (h1 x (by simp [ho, Op.operands])))
      refine ⟨y, _, h3, h5, ?_⟩
      have e2 : Act.eval ⟨tm, ds⟩ ix = .int ik z := e2
      simp only [execOp, ho, h4, e2]
      exact exec_value (run_indexAt_arr hok (hT.find hte) ik z h0 hn m.w b off)
    · exact h.elim
  · -- index
    rename_i t x ix ho
    split at h
    rotate_left
    · exact h.elim
    rename_i ti ik z hti hix
    have hok := (hT.find hti).k
    split at h
    · rename_i hk
      rw [hk] at hok
      split at h
      rotate_left
      · exact h.elim
      rename_i l hx
      obtain ⟨⟨h0, hn⟩, h⟩ := h
      refine semRead fun org m tm h1 h2 => ?_
      have e1 := h2.sim.ev (ds := ds) x (h1 x (by simp [ho, Op.operands]))
      have e2 := h2.sim.ev (ds := ds) ix (h1 ix (by simp [ho, Op.operands]))
      rw [hx] at e1
      rw [hix] at e2
      have e1 : Act.eval ⟨tm, ds⟩ x = strV l := e1
      have e2 : Act.eval ⟨tm, ds⟩ ix = .int ik z := e2
      refine ⟨_, _, h, rfl, ?_⟩
      simp only [execOp, ho, e1, e2]
      exact exec_value (run_index_str hok ik z l h0 hn m.w)
    · rename_i n e hk
      rw [hk] at hok
      split at h
      rotate_left
      · exact h.elim
      rename_i te cs hte hx
      obtain ⟨⟨h0, hn⟩, h⟩ := h
      refine semRead fun org m tm h1 h2 => ?_
      have e1 := h2.sim.ev (ds := ds) x (h1 x (by simp [ho, Op.operands]))
      have e2 := h2.sim.ev (ds := ds) ix (h1 ix (by simp [ho, Op.operands]))
      rw [hx] at e1
      rw [hix] at e2
      obtain ⟨ys, h3, h4, h5⟩ := e1
      have e2 : Act.eval ⟨tm, ds⟩ ix = .int ik z := e2
      obtain ⟨r, v, h6, h7, h8⟩ := run_index_arr hok (hT.find hte) ik z h0 hn h4 h5 h m.w
      refine ⟨r, v, h6, h7, ?_⟩
      simp only [execOp, ho, h3, e2]
      exact exec_value h8
    · exact h.elim
  · -- slice
    rename_i t x lo hi mx ho
    refine semRead fun org m tm h1 h2 => ?_
    have e := h2.sim.ev (ds := ds) x (h1 x (by simp [ho, Op.operands]))
    obtain ⟨r, v, h3, h4, h5⟩ := sliceA_sound (P := P) hT (ds := ds) h2.sim h (fun y hy => h1 y (by simp [ho, Op.operands, hy])) (fun y hy => h1 y (by simp [ho, Op.operands, hy])) e
    refine ⟨r, v, h3, h4, ?_⟩
    simp only [execOp, ho]
    exact exec_value h5
  · -- build
    rename_i t parts ho
    have hop : ∀ {tm : Array Value}, (∀ x ∈ o.op.operands.toList, okO tm.size x = true) → ∀ p ∈ parts.toList, okO tm.size p.2 = true := fun h1 p hp => h1 p.2 (by
      simp only [ho, Op.operands, List.mem_map]
      exact ⟨p, hp, rfl⟩)
    split at h
    rotate_left
    · exact h.elim
    rename_i ti hti
    split at h
    · rename_i fs hk
      split at h
      rotate_left
      · exact h.elim
      rename_i hall
      split at h
      rotate_left
      · exact h.elim
      rename_i cs hcs
      refine semRead fun org m tm h1 h2 => ?_
      obtain ⟨v, h3, h4⟩ := build_struct hT hti hk hall (ds := ds) h2.sim hcs (hop h1)
      refine ⟨_, v, h, h4, ?_⟩
      simp only [execOp, ho]
      have : (parts.map fun (p : Nat × Operand) => (p.1, Act.eval ⟨tm, ds⟩ p.2)) = (parts.toList.map fun p => (p.1, Act.eval ⟨tm, ds⟩ p.2)).toArray := map_arr _ _
      rw [← this] at h3
      exact exec_value h3
    · rename_i n e hk
      split at h
      rotate_left
      · exact h.elim
      rename_i te hte
      split at h
      rotate_left
      · exact h.elim
      rename_i cs hcs
      refine semRead fun org m tm h1 h2 => ?_
      obtain ⟨v, h3, h4⟩ := build_arr hT hti hk hte (ds := ds) h2.sim hcs (hop h1)
      refine ⟨_, v, h, h4, ?_⟩
      simp only [execOp, ho]
      have : (parts.map fun (p : Nat × Operand) => (p.1, Act.eval ⟨tm, ds⟩ p.2)) = (parts.toList.map fun p => (p.1, Act.eval ⟨tm, ds⟩ p.2)).toArray := map_arr _ _
      rw [← this] at h3
      exact exec_value h3
    · exact h.elim
  · -- buildSlice
    rename_i t n parts ho
    refine OpSem.val fun org m tm h1 h2 => ?_
    obtain ⟨r, v, st', m', h3, h4, h5, h6⟩ := buildSliceA_sound (P := P) hT (ds := ds) h2 h (fun p hp => h1 p.2 (by
      simp only [ho, Op.operands, List.mem_map]
      exact ⟨p, hp, rfl⟩))
    refine ⟨v, r, st', m', ?_, h4, h5, h6⟩
    simp only [execOp, ho]
    have : (parts.map fun (p : Nat × Operand) => (p.1, Act.eval ⟨tm, ds⟩ p.2)) = (parts.toList.map fun p => (p.1, Act.eval ⟨tm, ds⟩ p.2)).toArray := map_arr _ _
    rw [← this] at h3
    exact exec_value h3
  · -- binOp
    rename_i op t x y yt ho
    refine semRead fun org m tm h1 h2 => ?_
    have e1 := h2.sim.ev (ds := ds) x (h1 x (by simp [ho, Op.operands]))
    have e2 := h2.sim.ev (ds := ds) y (h1 y (by simp [ho, Op.operands]))
    obtain ⟨r, v, h3, h4, h5⟩ := binA_sound (P := P) hT h2.sim h e1 e2 x y
    refine ⟨r, v, h3, h4, ?_⟩
    simp only [execOp, ho]
    exact exec_value h5
  · -- unOp
    rename_i op t x ho
    refine semRead fun org m tm h1 h2 => ?_
    have e1 := h2.sim.ev (ds := ds) x (h1 x (by simp [ho, Op.operands]))
    obtain ⟨r, v, h3, h4, h5⟩ := unA_sound (P := P) h e1 m.w
    refine ⟨r, v, h3, h4, ?_⟩
    simp only [execOp, ho]
    exact exec_value h5
  · -- convert
    rename_i s d x ho
    refine semRead fun org m tm h1 h2 => ?_
    have e1 := h2.sim.ev (ds := ds) x (h1 x (by simp [ho, Op.operands]))
    obtain ⟨r, v, h3, h4, h5⟩ := convA_sound (P := P) hT h2.sim h e1
    refine ⟨r, v, h3, h4, ?_⟩
    simp only [execOp, ho]
    exact exec_value h5
  · -- extract
    rename_i t i ho
    split at h
    rotate_left
    · exact h.elim
    rename_i cs hx
    split at h
    rotate_left
    · exact h.elim
    rename_i x hn
    refine semRead fun org m tm h1 h2 => ?_
    have e1 := h2.sim.ev (ds := ds) t (h1 t (by simp [ho, Op.operands]))
    rw [hx] at e1
    obtain ⟨ys, h3, h4⟩ := e1
    rw [nth_eq] at hn
    obtain ⟨y, h5, h6⟩ := h4.get i x hn
    refine ⟨x, y, h, h6, ?_⟩
    simp only [execOp, ho, h3]
    exact exec_value (by simp [Instr.extract, h5])
  · -- makeInterface
    rename_i t x ho
    split at h
    rotate_left
    · exact h.elim
    rename_i ti v hti hv
    split at h
    rotate_left
    · exact h.elim
    rename_i hp
    refine semRead fun org m tm h1 h2 => ?_
    have e1 := h2.sim.ev (ds := ds) x (h1 x (by simp [ho, Op.operands]))
    have e2 := LV.val_sound hv e1
    refine ⟨_, _, h, rfl, ?_⟩
    simp only [execOp, ho, e2]
    exact exec_value (run_makeInterface' (hT.find hti) hp v m.w)
  · -- makeFunc
    rename_i fn a b ho
    refine semRead fun org m tm h1 h2 => ?_
    have e1 := evL (ds := ds) h2.sim a.toList (fun x hx => h1 x (by simp [ho, Op.operands] at hx ⊢; exact .inl hx))
    have e2 := evL (ds := ds) h2.sim b.toList (fun x hx => h1 x (by simp [ho, Op.operands] at hx ⊢; exact .inr hx))
    refine ⟨_, .func fn (a.map (Act.eval ⟨tm, ds⟩)) (b.map (Act.eval ⟨tm, ds⟩)), h, ⟨_, _, by rw [map_arr a, map_arr b], e1, e2⟩, ?_⟩
    simp only [execOp, ho]
    exact exec_value rfl
  · -- makeSlice
    rename_i t l c ho
    refine OpSem.val fun org m tm h1 h2 => ?_
    have e1 := h2.sim.ev (ds := ds) l (h1 l (by simp [ho, Op.operands]))
    have e2 := h2.sim.ev (ds := ds) c (h1 c (by simp [ho, Op.operands]))
    obtain ⟨r, v, st', m', h3, h4, h5, h6⟩ := makeSliceA_sound hT h2 h e1 e2
    refine ⟨v, r, st', m', ?_, h4, h5, h6⟩
    simp only [execOp, ho]
    exact exec_value h3
  · -- nilCheck
    rename_i x ho
    have key : ∀ (r : LV), evO st x = r → (∀ (m : Me) (y : Value), Rep m st.next r y → ∃ a, y = .pointer (some a)) → k r st → OpSem P ds o k kp st := fun r hx hr hk => semRead fun org m tm h1 h2 => by
      have e1 := h2.sim.ev (ds := ds) x (h1 x (by simp [ho, Op.operands]))
      rw [hx] at e1
      obtain ⟨a, ha⟩ := hr m _ e1
      refine ⟨r, _, hk, e1, ?_⟩
      simp only [execOp, ho, ha]
      rfl
    split at h
    · rename_i o' off hx; exact key _ hx (fun m y hy => by obtain ⟨_, b, _, rfl⟩ := hy; exact ⟨_, rfl⟩) h
    · rename_i o' sz i off hx; exact key _ hx (fun m y hy => by obtain ⟨_, b, n, c, _, _, rfl⟩ := hy; exact ⟨_, rfl⟩) h
    · rename_i cs off hx; exact key _ hx (fun m y hy => by obtain ⟨b, o, ys, rfl, _⟩ := hy; exact ⟨_, rfl⟩) h
    · exact h.elim
  · -- panic
    rename_i x ho
    split at h
    rotate_left
    · exact h.elim
    rename_i t v hx
    intro org m tm h1 h2 next Q hn hp
    have e1 := h2.sim.ev (ds := ds) x (h1 x (by simp [ho, Op.operands]))
    rw [hx] at e1
    have e1 : Act.eval ⟨tm, ds⟩ x = .iface t v := e1
    have hrun : (execOp (Act.eval ⟨tm, ds⟩) o).run P m.w = .halt (.panic (.iface t v)) m.w := by
      simp [execOp, ho, e1, Instr.panic, goPanic, Sem.run]
    unfold Oper.wp
    rw [hrun]
    exact hp _ _ m h h2
  · -- call
    rename_i c ho
    unfold callA at h
    split at h
    · -- a built-in
      rename_i b hc
      have hops : ∀ {tm : Array Value}, (∀ x ∈ o.op.operands.toList, okO tm.size x = true) → ∀ x ∈ c.args.toList, okO tm.size x = true := fun h1 x hx => h1 x (by
        simp [ho, Op.operands, Call.operands, hc]; exact Array.mem_toList_iff.1 hx)
      have hargs : ∀ {org m tm}, (∀ x ∈ o.op.operands.toList, okO tm.size x = true) → Ok org st m tm → RepL m st.next (c.args.toList.map (evO st)) (c.args.toList.map (Act.eval ⟨tm, ds⟩)) := fun h1 h2 => evL h2.sim _ (hops h1)
      have hrun : ∀ (tm : Array Value) (w w' : World) (y : Value) (f : Array TypeId → TypeId → Array Value → Sem Value), (f c.argTypes o.type (c.args.map (Act.eval ⟨tm, ds⟩))).run P w = .ok y w' →
          (∀ (consts : Array Bool), builtin b c.argTypes o.type consts (c.args.map (Act.eval ⟨tm, ds⟩)) = (do Pure.pure (Next.value (← f c.argTypes o.type (c.args.map (Act.eval ⟨tm, ds⟩)))) : Sem Next)) → (execOp (Act.eval ⟨tm, ds⟩) o).run P w = .ok (.value y) w' := by
        intro tm w w' y f h1 h2
        simp only [execOp, ho, resolve, hc, Sem.run_bind, Sem.run_pure, Result.andThen_ok, invoke, h2, h1]
      unfold builtinA at h
      split at h
      · -- len
        rename_i t x hts hxs
        refine semRead fun org m tm h1 h2 => ?_
        have e := hargs h1 h2
        rw [hxs] at e
        obtain ⟨y, r, he, e1, e2⟩ := e
        have e2 : r = [] := e2
        subst e2
        have hargs' : c.args.map (Act.eval ⟨tm, ds⟩) = #[y] := by rw [map_arr, he]
        have hts' : c.argTypes = #[t] := by rw [← Array.toArray_toList (xs := c.argTypes), hts]
        obtain ⟨r, v, h3, h4, h5⟩ := lenA_sound (P := P) hT (ty := o.type) h e1 m.w
        exact ⟨r, v, h3, h4, hrun tm m.w m.w v Builtin.len_ (by rw [hargs', hts']; exact h5) (fun _ => rfl)⟩
      · -- append
        rename_i t t' x y hts hxs
        have key : (∀ {org : Me} {m : Me} {tm : Array Value} {a b' : Value}, Ok org st m tm → Rep m st.next x a → Rep m st.next y b' → ∃ r v st' m', (Builtin.append_ #[t, t'] o.type #[a, b']).run P m.w = .ok v m'.w ∧ k r st' ∧ Ok org st' m' tm ∧ Rep m' st'.next r v) := by
          intro org m tm a b' h2 e1 e2
          split at h
          · rename_i htt
            have htt := Nat.eq_of_beq_eq_true htt
            subst htt
            exact appendA_sound (ty := o.type) hT h2 h e1 e2
          · exact appendS_sound (ty := o.type) hT h2 h e1 e2
        refine OpSem.val fun org m tm h1 h2 => ?_
        have e := hargs h1 h2
        rw [hxs] at e
        obtain ⟨a, r, he, e1, b', r', rfl, e2, e3⟩ := e
        have e3 : r' = [] := e3
        subst e3
        have hargs' : c.args.map (Act.eval ⟨tm, ds⟩) = #[a, b'] := by rw [map_arr, he]
        have hts' : c.argTypes = #[t, t'] := by rw [← Array.toArray_toList (xs := c.argTypes), hts]
        obtain ⟨r, v, st', m', h3, h4, h5, h6⟩ := key h2 e1 e2
        exact ⟨v, r, st', m', hrun tm m.w m'.w v Builtin.append_ (by rw [hargs', hts']; exact h3) (fun _ => rfl), h4, h5, h6⟩
      · -- copy
        rename_i t t' x y hts hxs
        refine OpSem.val fun org m tm h1 h2 => ?_
        have e := hargs h1 h2
        rw [hxs] at e
        obtain ⟨a, r, he, e1, b', r', rfl, e2, e3⟩ := e
        have e3 : r' = [] := e3
        subst e3
        have hargs' : c.args.map (Act.eval ⟨tm, ds⟩) = #[a, b'] := by rw [map_arr, he]
        have hts' : c.argTypes = #[t, t'] := by rw [← Array.toArray_toList (xs := c.argTypes), hts]
        obtain ⟨r, v, st', m', h3, h4, h5, h6⟩ := copyA_sound (t' := t') (ty0 := o.type) hT h2 h e1 e2
        exact ⟨v, r, st', m', hrun tm m.w m'.w v Builtin.copy_ (by rw [hargs', hts']; exact h3) (fun _ => rfl), h4, h5, h6⟩
      · -- min
        rename_i x y hxs
        unfold minA at h
        split at h
        rotate_left
        · exact h.elim
        rename_i k1 a1 k2 a2
        refine semRead fun org m tm h1 h2 => ?_
        have e := hargs h1 h2
        rw [hxs] at e
        obtain ⟨a, r, he, e1, b', r', rfl, e2, e3⟩ := e
        have e3 : r' = [] := e3
        subst e3
        have e1 : a = .int k1 a1 := e1
        have e2 : b' = .int k2 a2 := e2
        subst e1; subst e2
        have hargs' : c.args.map (Act.eval ⟨tm, ds⟩) = #[.int k1 a1, .int k2 a2] := by rw [map_arr, he]
        exact ⟨_, _, h, rfl, hrun tm m.w m.w _ Builtin.min_ (by rw [hargs']; simp [Builtin.min_, Builtin.min2]) (fun _ => rfl)⟩
      · -- max
        rename_i x y hxs
        unfold maxA at h
        split at h
        rotate_left
        · exact h.elim
        rename_i k1 a1 k2 a2
        refine semRead fun org m tm h1 h2 => ?_
        have e := hargs h1 h2
        rw [hxs] at e
        obtain ⟨a, r, he, e1, b', r', rfl, e2, e3⟩ := e
        have e3 : r' = [] := e3
        subst e3
        have e1 : a = .int k1 a1 := e1
        have e2 : b' = .int k2 a2 := e2
        subst e1; subst e2
        have hargs' : c.args.map (Act.eval ⟨tm, ds⟩) = #[.int k1 a1, .int k2 a2] := by rw [map_arr, he]
        exact ⟨_, _, h, rfl, hrun tm m.w m.w _ Builtin.max_ (by rw [hargs']; simp [Builtin.max_, Builtin.max2]) (fun _ => rfl)⟩
      · exact h.elim
    · rename_i f hc
      have hf : ∀ {tm : Array Value}, (∀ x ∈ o.op.operands.toList, okO tm.size x = true) → okO tm.size f = true := fun h1 => h1 f (by
        simp [ho, Op.operands, Call.operands, hc])
      have hops : ∀ {tm : Array Value}, (∀ x ∈ o.op.operands.toList, okO tm.size x = true) → ∀ x ∈ c.args.toList, okO tm.size x = true := fun h1 x hx => h1 x (by
        simp [ho, Op.operands, Call.operands, hc]; exact .inr (Array.mem_toList_iff.1 hx))
      have hargs : ∀ {org m tm}, (∀ x ∈ o.op.operands.toList, okO tm.size x = true) → Ok org st m tm → RepL m st.next (c.args.toList.map (evO st)) (c.args.toList.map (Act.eval ⟨tm, ds⟩)) := fun h1 h2 => evL h2.sim _ (hops h1)
      have go : ∀ (n : FuncId) (args : List LV), CallA P n args k kp st → (∀ org m tm, (∀ x ∈ o.op.operands.toList, okO tm.size x = true) → Ok org st m tm → ∃ vs, RepL m st.next args vs ∧ (execOp (Act.eval ⟨tm, ds⟩) o).run P m.w = (callFunc n vs.toArray).run P m.w) → OpSem P ds o k kp st := by
        intro n args hcall hex org m tm h1 h2 next Q hn hp
        obtain ⟨vs, h3, h4⟩ := hex org m tm h1 h2
        obtain ⟨hfn, hcall⟩ := hcall
        unfold Oper.wp
        rw [h4, hfn]
        refine (hcall org m tm vs h2 h3).mono ?_
        rintro e w' ⟨st', m', rfl, h5, h6⟩
        rcases h6 with ⟨y, x, rfl, h7, h8⟩ | ⟨x, rfl, h8⟩
        · exact hn y x st' m' h8 h5 h7
        · exact hp x st' m' h8 h5
      split at h
      · rename_i n a b hx
        split at h
        rotate_left
        · exact h.elim
        rename_i ha hb
        have ha : a = #[] := by rw [← Array.toArray_toList (xs := a), ha]
        have hb : b = #[] := by rw [← Array.toArray_toList (xs := b), hb]
        subst ha; subst hb
        rw [frcC_eq] at h
        refine go n _ h fun org m tm h1 h2 => ⟨_, hargs h1 h2, ?_⟩
        have e := h2.sim.ev (ds := ds) f (hf h1)
        rw [hx] at e
        have e : Act.eval ⟨tm, ds⟩ f = .func (.func n) #[] #[] := e
        simp only [execOp, ho, resolve, hc, Sem.run_bind, Deferred.ofValue, e, Sem.run_pure, Result.andThen_ok, invoke, Array.append_empty, Array.empty_append, map_arr c.args]
      · rename_i n a b hx
        rw [frcC_eq] at h
        refine go n _ h fun org m tm h1 h2 => ?_
        have e := h2.sim.ev (ds := ds) f (hf h1)
        rw [hx] at e
        obtain ⟨fs, cs, e1, e2, e3⟩ := e
        refine ⟨fs ++ (c.args.toList.map (Act.eval ⟨tm, ds⟩) ++ cs), e2.append ((hargs h1 h2).append e3), ?_⟩
        simp only [execOp, ho, resolve, hc, Sem.run_bind, Deferred.ofValue, e1, Sem.run_pure, Result.andThen_ok, invoke, map_arr c.args]
        simp
      · exact h.elim
    · exact h.elim
  · -- a map is made
    rename_i t ho
    refine OpSem.val fun org m tm h1 h2 => ?_
    obtain ⟨x, st', m', y, h3, h4, h5, h6⟩ := makeMapA_sound hT h2 h
    exact ⟨y, x, st', m', by simp [execOp, ho, h3], h4, h5, h6⟩
  · -- a look into a map
    rename_i t x i ho
    refine semRead fun org m tm h1 h2 => ?_
    have e1 := h2.sim.ev (ds := ds) x (h1 x (by simp [ho, Op.operands]))
    have e2 := h2.sim.ev (ds := ds) i (h1 i (by simp [ho, Op.operands]))
    obtain ⟨r, y, h3, h4, h5⟩ := lookupA_sound hT h2 h e1 e2
    exact ⟨r, y, h3, h4, by simp [execOp, ho, h5]⟩
  · -- a store into a map
    rename_i t x i v ho
    refine OpSem.unit fun org m tm h1 h2 => ?_
    have e1 := h2.sim.ev (ds := ds) x (h1 x (by simp [ho, Op.operands]))
    have e2 := h2.sim.ev (ds := ds) i (h1 i (by simp [ho, Op.operands]))
    have e3 := h2.sim.ev (ds := ds) v (h1 v (by simp [ho, Op.operands]))
    obtain ⟨st', m', h3, h4, h5⟩ := mapUpdateA_sound hT h2 h e1 e2 e3
    exact ⟨st', m', by simp [execOp, ho, h3], h4, h5⟩
  · exact h.elim

end Go.Proofs.Aw
namespace Go.Proofs.Aw
open Go Go.RowKit

/-! ### the abstract run -/
def runOps (P : Program) (T : Tab) (sz : Nat) (ops : List Oper) (K : AX → St → Prop) : List Oper → St → Prop
  | [], st => K .normal st
  | o :: r, st => guardA ops sz o (opA P T o (fun x st' => frc x fun x => frcS (st'.put o.dst x) fun st' => runOps P T sz ops K r st') (fun x st' => K (.pan x) st')) (fun st' => frcS (st'.put o.dst (.tup [])) fun st' => runOps P T sz ops K r st') st

/-- a loop: some family of states serves -/
def LoopA (body : (AX → St → Prop) → St → Prop) (K : AX → St → Prop) (st : St) : Prop :=
  ∃ (ι : Type) (I : ι → St) (φ : ι → Prop) (μ : ι → Nat) (i0 : ι), φ i0 ∧ St.to st (I i0) ∧ ∀ i, φ i → body (seqK K fun st' => ∃ j, φ j ∧ μ j < μ i ∧ St.to st' (I j)) (I i)

/-- a region whose order is open; told elsewhere -/
def DrawA (P : Program) (T : Tab) (sz : Nat) (ops : Array Oper) (K : AX → St → Prop) (st : St) : Prop :=
  ∀ org ds id, ops.toList.all (opOk sz) = true → AW P org ds sz (.region id ops true) K st

def runC (P : Program) (T : Tab) (sz : Nat) : Code → (AX → St → Prop) → St → Prop
  | .skip, K, st => K .normal st
  | .region _ ops draw, K, st => match draw with
    | false => runOps P T sz ops.toList K ops.toList st
    | true => DrawA P T sz ops K st
  | .seq a b, K, st => runC P T sz a (seqK K (runC P T sz b K)) st
  | .cond c a b, K, st => condA (evO st c) (runC P T sz a K st) (runC P T sz b K st)
  | .block id c, K, st => runC P T sz c (blockK id K) st
  | .loop c, K, st => LoopA (runC P T sz c) K st
  | .exit id, K, st => K (.exit id) st
  | .ret, K, st => K .ret st
  | _, _, _ => False

def codeOk (sz : Nat) : Code → Bool
  | .region _ ops _ => ops.toList.all (opOk sz)
  | .seq a b => codeOk sz a && codeOk sz b
  | .cond c a b => okO sz c && (codeOk sz a && codeOk sz b)
  | .block _ c => codeOk sz c
  | .loop c => codeOk sz c
  | _ => true

theorem guardA_mono {ops : List Oper} {sz : Nat} {o : Oper} {y y' n n' : St → Prop} {st : St} (hy : ∀ st, y st → y' st) (hn : ∀ st, n st → n' st) (h : guardA ops sz o y n st) : guardA ops sz o y' n' st := by
  unfold guardA at *
  split
  · simp_all
  · rename_i j want hg
    simp only [hg] at h
    split
    · simp_all
    · rename_i oj hj
      simp only [hj] at h
      split
      · simp_all
      · rename_i d hd
        simp only [hd] at h
        split
        · simp_all
        · rename_i hs
          simp only [hs] at h
          split
          · rename_i hl
            simp only [hl] at h
            cases want
            · exact hn _ h
            · exact hy _ h
          · rename_i hl
            simp only [hl] at h
            cases want
            · exact hy _ h
            · exact hn _ h
          · rename_i b hl
            simp only [hl] at h
            cases want
            · exact ⟨fun e => hn _ (h.1 e), fun e => hy _ (h.2 e)⟩
            · exact ⟨fun e => hy _ (h.1 e), fun e => hn _ (h.2 e)⟩
          · rename_i hl
            simp only [hl] at h
            exact hn _ h
          · rename_i h1 h2 h3 h4
            split at h
            · exact absurd ‹_› (h1)
            · exact absurd ‹_› (h2)
            · exact absurd ‹_› (h3 _)
            · exact absurd ‹_› h4
            · exact h.elim

theorem runOps_sound {P : Program} {T : Tab} (hT : T.Ok P) {org : Me} {ds : List Deferred} {sz : Nat} {ops : List Oper} {K : AX → St → Prop} : ∀ (l : List Oper) (st : St), l.all (opOk sz) = true → runOps P T sz ops K l st → AL P org ds sz ops.toArray l K st
  | [], st, _, h => AL.nil h
  | o :: r, st, hok, h => by
    simp only [List.all_cons, Bool.and_eq_true] at hok
    refine AL.guard hok.1 (guardA_mono (fun st' h' => ?_) (fun st' h' => ?_) h)
    · intro org' m tm h1 h2 next Q hn hp
      exact opA_sound hT h' org' m tm h1 h2 next Q (fun y x st'' m' hk => hn y x st'' m' (by rw [frc_eq, frcS_eq] at hk; exact runOps_sound hT r _ hok.2 hk)) hp
    · exact runOps_sound hT r _ hok.2 h'

theorem runC_sound {P : Program} {T : Tab} (hT : T.Ok P) {org : Me} {ds : List Deferred} {sz : Nat} : ∀ (c : Code) (K : AX → St → Prop) (st : St), codeOk sz c = true → runC P T sz c K st → AW P org ds sz c K st
  | .skip, K, st, _, h => AW.skip h
  | .region id ops draw, K, st, hok, h => by
    cases draw with
    | false =>
      refine AW.region ?_
      have := runOps_sound (P := P) (org := org) (ds := ds) (ops := ops.toList) hT ops.toList st hok h
      simpa using this
    | true => exact h org ds id hok
  | .seq a b, K, st, hok, h => by
    simp only [codeOk, Bool.and_eq_true] at hok
    refine AW.seq (AW.mono (runC_sound hT a _ st hok.1 h) fun x st' hx => ?_)
    cases x with
    | normal => exact runC_sound hT b K st' hok.2 hx
    | exit id => exact hx
    | ret => exact hx
    | pan x => exact hx
  | .cond c a b, K, st, hok, h => by
    simp only [codeOk, Bool.and_eq_true] at hok
    refine AW.cond hok.1 ?_
    have h : condA (evO st c) (runC P T sz a K st) (runC P T sz b K st) := h
    unfold condA at *
    split
    · rename_i e; simp only [e] at h; exact runC_sound hT a K st hok.2.1 h
    · rename_i e; simp only [e] at h; exact runC_sound hT b K st hok.2.2 h
    · rename_i q e; simp only [e] at h; exact ⟨fun hq => runC_sound hT a K st hok.2.1 (h.1 hq), fun hq => runC_sound hT b K st hok.2.2 (h.2 hq)⟩
    · rename_i h1 h2 h3
      split at h
      · exact absurd ‹_› h1
      · exact absurd ‹_› h2
      · exact absurd ‹_› (h3 _)
      · exact h.elim
  | .block id c, K, st, hok, h => AW.block (runC_sound hT c _ st hok h)
  | .loop c, K, st, hok, h => by
    obtain ⟨ι, I, φ, μ, i0, h0, hl, hr⟩ := h
    exact AW.loop I φ μ i0 h0 hl fun i hi => runC_sound hT c _ _ hok (hr i hi)
  | .exit id, K, st, _, h => AW.exit h
  | .ret, K, st, _, h => AW.ret h
  | .rangeFunc .., _, _, _, h => h.elim
  | .scope .., _, _, _, h => h.elim
  | .label .., _, _, _, h => h.elim
  | .goto .., _, _, _, h => h.elim
  | .refuse .., _, _, _, h => h.elim

/-! ### a function's results, and its call -/
def resA (T : Tab) (st : St) : ResultVar → (LV → Prop) → Prop
  | .tmp t, K => K (look t st.env)
  | .cell a t, K => match T.find t with
    | some ti => memA st (look a st.env) fun cs off => loadK ti cs off K
    | none => False
def resL (T : Tab) (st : St) : List ResultVar → (List LV → Prop) → Prop
  | [], K => K []
  | r :: rs, K => resA T st r fun x => resL T st rs fun xs => K (x :: xs)
def resK (T : Tab) (st : St) (rs : List ResultVar) (K : LV → Prop) : Prop := match rs with
  | [r] => resA T st r K
  | rs => resL T st rs fun xs => K (.tup xs)
def resOk (sz : Nat) : ResultVar → Bool
  | .tmp t => Nat.blt t sz
  | .cell a _ => Nat.blt a sz

def argEnv : Nat → List LV → List (Nat × LV)
  | _, [] => []
  | i, x :: xs => (i, x) :: argEnv (i + 1) xs

/-- the state in which a function is entered -/
def St.enter (st : St) (args : List LV) : St := match st with
  | ⟨_, o, n, _⟩ => ⟨argEnv 0 args, o, n, n⟩
/-- the state behind a call -/
def St.back (st st' : St) : St := match st, st' with
  | ⟨e, _, _, l⟩, ⟨_, o, n, _⟩ => ⟨e, o, n, l⟩

theorem look_args : ∀ (xs : List LV) (i k : Nat), look k (argEnv i xs) = if i ≤ k then (xs[k - i]?).getD .any else .any
  | [], i, k => by simp [argEnv, look]
  | x :: xs, i, k => by
    simp only [argEnv, look]
    by_cases e : k = i
    · subst e; simp
    · rw [beqF e]
      simp only [look_args xs (i + 1) k]
      by_cases h : i ≤ k
      · rw [if_pos h, if_pos (by omega)]
        have : k - i = (k - (i + 1)) + 1 := by omega
        rw [this]; simp
      · rw [if_neg h, if_neg (by omega)]

end Go.Proofs.Aw
