/- A PART OF THE PROOF: an abstract run of the loaded code over value trees, and the functions walked by it. No condition of its own. -/
import Derived.Test.YtanmknmlphkeaaaGreatDoorGA13m
namespace Go.Proofs.Aw
open Go Go.RowKit

def readRes (tm : Array Value) : ResultVar → Sem Value
  | .tmp t => Pure.pure (tm.getD t undef)
  | .cell a t => do loadVar t (← asAddr (tm.getD a undef))
theorem results_eq (fn : Func) (tm : Array Value) : results fn tm = (do let vs ← fn.results.mapM (readRes tm); Pure.pure (if h : vs.size = 1 then vs[0] else .tuple vs)) := by
  have h : (fun (r : ResultVar) => (match r with
    | .tmp t => Pure.pure (tm.getD t undef)
    | .cell a t => do loadVar t (← asAddr (tm.getD a undef)) : Sem Value)) = readRes tm := by
    funext r
    cases r <;> rfl
  rw [← h]
  rfl

theorem resA_sound {P : Program} {T : Tab} (hT : T.Ok P) {st : St} {m : Me} {tm : Array Value} (hs : Sim st m tm) {r : ResultVar} (hr : resOk tm.size r = true) {K : LV → Prop} (h : resA T st r K) :
    ∃ x v, K x ∧ Rep m st.next x v ∧ (readRes tm r).run P m.w = .ok v m.w := by
  cases r with
  | tmp t => exact ⟨_, _, h, hs.slot t (by simpa [resOk, Nat.blt_eq] using hr), rfl⟩
  | cell a t =>
    simp only [resA] at h
    split at h
    · rename_i ti hti
      obtain ⟨b, o, cs, off, ys, h1, h2, h3, h4⟩ := memA_sound hs h (hs.slot a (by simpa [resOk, Nat.blt_eq] using hr))
      obtain ⟨x, y, h5, h6, h7⟩ := run_loadVar_at (hT.find hti) h4 h3 h1
      refine ⟨x, y, h5, h6, ?_⟩
      simp only [readRes, h2, asAddr, Sem.run_bind, Sem.run_pure, Result.andThen_ok, h7]
    · exact h.elim

theorem resL_sound {P : Program} {T : Tab} (hT : T.Ok P) {st : St} {m : Me} {tm : Array Value} (hs : Sim st m tm) : ∀ {rs : List ResultVar}, rs.all (resOk tm.size) = true → ∀ {K : List LV → Prop}, resL T st rs K →
    ∃ xs vs, K xs ∧ RepL m st.next xs vs ∧ vs.length = rs.length ∧ (rs.mapM (readRes tm) : Sem (List Value)).run P m.w = .ok vs m.w
  | [], _, K, h => ⟨[], [], h, rfl, rfl, rfl⟩
  | r :: rs, hok, K, h => by
    simp only [List.all_cons, Bool.and_eq_true] at hok
    obtain ⟨x, v, h1, h2, h3⟩ := resA_sound (P := P) hT hs hok.1 h
    obtain ⟨xs, vs, h4, h5, h6, h7⟩ := resL_sound hT hs hok.2 h1
    refine ⟨x :: xs, v :: vs, h4, ⟨v, vs, rfl, h2, h5⟩, by simp [h6], ?_⟩
    simp only [List.mapM_cons, Sem.run_bind, h3, Result.andThen_ok, h7, Sem.run_pure]

theorem memA_mono {st : St} {x : LV} {f f' : List LV → Nat → Prop} (hf : ∀ cs off, f cs off → f' cs off) (h : memA st x f) : memA st x f' := by
  unfold memA at *
  split
  · rename_i o off
    simp only [] at h
    split
    · rename_i ty cs ho; simp only [ho] at h; exact hf _ _ h
    · rename_i h1
      split at h
      · exact absurd ‹_› (h1 _ _)
      · exact h.elim
  · exact hf _ _ h
  · rename_i o sz i off
    simp only [] at h
    split
    · rename_i ty sz' n g ho
      simp only [ho] at h
      split
      · rename_i hb; simp only [hb] at h; exact hf _ _ h
      · rename_i hb; simp only [hb] at h
    · rename_i h1
      split at h
      · exact absurd ‹_› (h1 _ _ _ _)
      · exact h.elim
  · rename_i h1 h2 h3
    split at h
    · exact absurd rfl (h1 _ _)
    · exact absurd rfl (h2 _ _)
    · exact absurd rfl (h3 _ _ _ _)
    · exact h

theorem resK_sound {P : Program} {T : Tab} (hT : T.Ok P) {st : St} {m : Me} {tm : Array Value} (hs : Sim st m tm) {fn : Func} (hok : fn.results.toList.all (resOk tm.size) = true) {K : LV → Prop} (h : resK T st fn.results.toList K) :
    ∃ x v, K x ∧ Rep m st.next x v ∧ (results fn tm).run P m.w = .ok v m.w := by
  have go : ∀ {K : List LV → Prop}, resL T st fn.results.toList K → ∃ xs vs, K xs ∧ RepL m st.next xs vs ∧ vs.length = fn.results.size ∧ (results fn tm).run P m.w = .ok (if h : vs.toArray.size = 1 then vs.toArray[0] else .tuple vs.toArray) m.w := by
    intro K h
    obtain ⟨xs, vs, h1, h2, h3, h4⟩ := resL_sound (P := P) hT hs hok h
    refine ⟨xs, vs, h1, h2, by simpa using h3, ?_⟩
    rw [results_eq, Array.mapM_eq_mapM_toList]
    simp only [Sem.run_bind, Sem.run_map, h4, Result.andThen_ok, Sem.run_pure]
  unfold resK at h
  split at h
  · rename_i r hr
    have h' : resL T st fn.results.toList (fun xs => ∃ x, xs = [x] ∧ K x) := by
      rw [hr]
      cases r with
      | tmp t => exact ⟨_, rfl, h⟩
      | cell a t =>
        simp only [resL, resA] at h ⊢
        have conv : ∀ (ti : TI) (cs : List LV) (off : Nat), loadK ti cs off K → loadK ti cs off (fun x => ∃ x_1, [x] = [x_1] ∧ K x_1) := by
          intro ti cs off hl
          unfold loadK at *
          split
          · rename_i ha
            simp only [ha] at hl
            split
            · rename_i hb; simp only [hb] at hl; exact ⟨_, rfl, hl⟩
            · rename_i hb; simp only [hb] at hl
          · rename_i ha
            simp only [ha] at hl
            split
            · rename_i x hb; simp only [hb] at hl; exact ⟨_, rfl, hl⟩
            · rename_i hb; simp only [hb] at hl
        split
        · rename_i ti hti
          simp only [hti] at h
          exact memA_mono (conv ti) h
        · rename_i hti
          simp only [hti] at h
    obtain ⟨xs, vs, ⟨x, rfl, hx⟩, h2, h3, h4⟩ := go h'
    obtain ⟨v, r', rfl, h5, h6⟩ := h2
    have h6 : r' = [] := h6
    subst h6
    exact ⟨x, v, hx, h5, by rw [h4]; rfl⟩
  · rename_i rs hrs
    obtain ⟨xs, vs, h1, h2, h3, h4⟩ := go h
    refine ⟨_, .tuple vs.toArray, h1, ⟨vs, rfl, h2⟩, ?_⟩
    rw [h4, dif_neg]
    intro hsz
    have : fn.results.size = 1 := by rw [← h3]; simpa using hsz
    obtain ⟨r, hr⟩ : ∃ r, fn.results.toList = [r] := by
      have h7 : fn.results.toList.length = 1 := by simpa using this
      match fn.results.toList, h7 with
      | [r], _ => exact ⟨r, rfl⟩
    exact hrs r hr

end Go.Proofs.Aw
namespace Go.Proofs.Aw
open Go Go.RowKit

/-- behind a call: the caller's frame over the callee's memory -/
theorem Ok.back {org : Me} {st st' : St} {m m' : Me} {tm tm' : Array Value} (h : Ok org st m tm) (hf : Fr m m') (hs : Sim st' m' tm') : Ok org (st.back st') m' tm := by
  have e := h.sim.n
  have e' := hs.n
  have h4 := hf.n
  exact ⟨⟨hs.n, fun k hk => Rep.fr hf st.next st'.next (by omega) (by omega) _ _ (h.sim.env k hk), hs.obj, hs.apart⟩, h.fr.trans hf, h.low⟩

def bodyK (T : Tab) (rs : List ResultVar) (k : LV → St → Prop) (kp : Value → St → Prop) (st : St) : AX → St → Prop
  | .normal, st' => resK T st' rs fun x => k x (st.back st')
  | .ret, st' => resK T st' rs fun x => k x (st.back st')
  | .pan x, st' => kp x (st.back st')
  | .exit _, _ => False

def bodyOf (fn : Func) : Code := fn.body.getD .skip
/-- what a function's text must meet; closed -/
structure FnText (P : Program) (f : FuncId) (fn : Func) (np : Nat) : Prop where
  at_ : P.funcs[f]? = some fn
  body : fn.body.isSome = true
  ok : FnOk P f
  code : codeOk fn.ntmps (bodyOf fn) = true
  res : fn.results.toList.all (resOk fn.ntmps) = true
  par : Nat.ble np fn.ntmps = true
theorem FnText.some {P : Program} {f : FuncId} {fn : Func} {np : Nat} (h : FnText P f fn np) : fn.body = Option.some (bodyOf fn) := by
  have := h.body
  unfold bodyOf
  cases hb : fn.body with
  | none => rw [hb] at this; cases this
  | some c => rfl

theorem CallA.body {P : Program} {T : Tab} (hT : T.Ok P) {f : FuncId} {fn : Func} {args : List LV} (hx : FnText P f fn args.length) {k : LV → St → Prop} {kp : Value → St → Prop} {st : St}
    (h : runC P T fn.ntmps (bodyOf fn) (bodyK T fn.results.toList k kp st) (st.enter args)) : CallA P f args k kp st := by
  refine ⟨hx.ok, fun org m tm vs hO hargs => ?_⟩
  have hpar := Nat.le_of_ble_eq_true hx.par
  have hlen := hargs.length
  have e := hO.sim.n
  refine calls_of_wp hx.at_ hx.some ?_
  have hsz : (vs.toArray ++ Array.replicate (fn.ntmps - vs.toArray.size) undef).size = fn.ntmps := by simp; omega
  have hAW := runC_sound (P := P) (org := m) (ds := []) hT (bodyOf fn) _ (st.enter args) hx.code h m (vs.toArray ++ Array.replicate (fn.ntmps - vs.toArray.size) undef) hsz
    ⟨⟨e, fun i hi => by
      show Rep m st.next (look i (argEnv 0 args)) _
      rw [look_args]
      simp only [Nat.zero_le, if_true, Nat.sub_zero]
      by_cases hia : i < args.length
      · rw [List.getElem?_eq_getElem hia]
        obtain ⟨y, hy, hr⟩ := hargs.get i args[i] (List.getElem?_eq_getElem hia)
        have : (vs.toArray ++ Array.replicate (fn.ntmps - vs.toArray.size) undef)[i] = y := by
          rw [Array.getElem_append_left (by simp; omega)]
          have := (List.getElem?_eq_some_iff.1 hy).2
          simpa using this
        rw [this]
        exact hr
      · rw [List.getElem?_eq_none (by omega)]
        exact trivial, hO.sim.obj, hO.sim.apart⟩, Fr.refl m, e.symm⟩
  refine Code.wp_mono ?_ hAW
  rintro ex ⟨tm', ds'⟩ w' ⟨rfl, h2, x, st', m', rfl, h3, rfl, h4⟩
  have h2 : tm'.size = fn.ntmps := h2
  have hres : fn.results.toList.all (resOk tm'.size) = true := by rw [h2]; exact hx.res
  have fin : resK T st' fn.results.toList (fun x => k x (st.back st')) → bodyPost P fn (fun e w' => ∃ st' m', m'.w = w' ∧ Ok org st' m' tm ∧ ((∃ y x, e = .returned y ∧ Rep m' st'.next x y ∧ k x st') ∨ (∃ x, e = .panicked [{ v := x, recovered := false }] ∧ kp x st'))) .ret ⟨tm', []⟩ m'.w := by
    intro h3
    obtain ⟨r, v, h5, h6, h7⟩ := resK_sound (P := P) hT h4.sim (fn := fn) hres h3
    exact ⟨rfl, v, h7, st.back st', m', rfl, hO.back h4.fr h4.sim, .inl ⟨v, r, rfl, h6, h5⟩⟩
  cases x with
  | normal => exact fin h3
  | ret => exact fin h3
  | exit id => exact h3.elim
  | pan x => exact ⟨rfl, st.back st', m', rfl, hO.back h4.fr h4.sim, .inr ⟨x, rfl, h3⟩⟩

/-! ### a contract over trees -/
mutual
/-- what the call made is kept for good -/
def fz (objs : List (Nat × LO)) : LV → LV
  | .ls o n => match lookO o objs with
    | some (.arr _ sz _ g) => .sl sz n g
    | _ => .any
  | .agg cs => .agg (fzL objs cs)
  | .tup cs => .tup (fzL objs cs)
  | x => x
def fzL (objs : List (Nat × LO)) : List LV → List LV
  | [] => []
  | x :: xs => fz objs x :: fzL objs xs
end

def Me.base (w : World) (vo : Nat → Prop) (lt : ∀ k, vo k → k < w.heap.size) : Me := ⟨w, fun _ => undef, vo, fun _ => False, 0, fun _ h => h.elim, lt⟩

structure Kept (w w' : World) : Prop where
  sys : SameSys w w'
  size : w.heap.size ≤ w'.heap.size
  keep : ∀ k, k < w.heap.size → w'.heap[k]? = w.heap[k]?

/-- called with these, function f gives this, and leaves all memory as it was -/
def Ct (P : Program) (f : FuncId) (args : List LV) (res : LV) : Prop :=
  FnOk P f ∧ ∀ w vo lt vs, RepL (Me.base w vo lt) 0 args vs → Calls P f vs.toArray w fun e w' => ∃ y lt', e = .returned y ∧ Kept w w' ∧ Rep (Me.base w' vo lt') 0 res y

def St.nil : St := ⟨[], [], 0, 0⟩

mutual
/-- what names no object of the call's own, under another view of what may change -/
theorem closed {m m' : Me} (hw : m'.w = m.w) (hvo : ∀ k, m'.vo k → m.vo k) : ∀ (x : LV) (y : Value), Rep m 0 x y → Rep m' 0 x y
  | .any, _, _ => trivial
  | .v _, _, h => h
  | .bs _, _, h => h
  | .ly _ _ _, _, h => ⟨h.1, by rw [hw]; exact h.2.1, fun k => h.2.2 (hvo _ k)⟩
  | .str _, _, h => h
  | .agg cs, y, h => by
    obtain ⟨ys, rfl, h1, h2⟩ := h
    exact ⟨ys, rfl, closedL hw hvo cs ys h1, h2⟩
  | .tup cs, y, h => by
    obtain ⟨ys, rfl, h1⟩ := h
    exact ⟨ys, rfl, closedL hw hvo cs ys h1⟩
  | .sl sz n g, y, h => by
    obtain ⟨A, cap, rfl, h1, h2, h3, h4⟩ := h
    refine ⟨A, cap, rfl, h1, h2, h3, fun h0 => ?_⟩
    obtain ⟨b, off, rfl, h5, h6, h7⟩ := h4 h0
    refine ⟨b, off, rfl, fun h => h5 (hvo b h), by rw [hw]; exact h6, fun i hi => ?_⟩
    obtain ⟨ys, h8, h9⟩ := h7 i hi
    exact ⟨ys, closedL hw hvo (g i) ys h8, by rw [hw]; exact h9⟩
  | .sp cs off, y, h => by
    obtain ⟨b, o, ys, rfl, h1, h2, h3, h4⟩ := h
    exact ⟨b, o, ys, rfl, fun h => h1 (hvo b h), by rw [hw]; exact h2, closedL hw hvo cs ys h3, by rw [hw]; exact h4⟩
  | .lp _ _, _, h => absurd h.1 (by omega)
  | .el _ _ _ _, _, h => absurd h.1 (by omega)
  | .ls _ _, _, h => absurd h.1 (by omega)
  | .as _ _ _, _, h => absurd h.1 (by omega)
  | .clo _ a b, _, h => by
    obtain ⟨fs, cs, rfl, h1, h2⟩ := h
    exact ⟨fs, cs, rfl, closedL hw hvo a fs h1, closedL hw hvo b cs h2⟩
theorem closedL {m m' : Me} (hw : m'.w = m.w) (hvo : ∀ k, m'.vo k → m.vo k) : ∀ (xs : List LV) (ys : List Value), RepL m 0 xs ys → RepL m' 0 xs ys
  | [], _, h => h
  | x :: xs, ys, h => by
    obtain ⟨y, r, rfl, h1, h2⟩ := h
    exact ⟨y, r, rfl, closed hw hvo x y h1, closedL hw hvo xs r h2⟩
end

mutual
theorem fz_sound {st : St} {m : Me} {tm : Array Value} (hs : Sim st m tm) {vo : Nat → Prop} (lt : ∀ k, vo k → k < m.w.heap.size) (hvo : ∀ k, vo k → m.vo k ∧ ¬ m.wr k) : ∀ (x : LV) (y : Value), Rep m st.next x y → (fz st.objs x).under 0 = true → Rep (Me.base m.w vo lt) 0 (fz st.objs x) y
  | .any, _, _, _ => trivial
  | .v _, _, h, _ => h
  | .bs _, _, h, _ => h
  | .ly _ _ _, _, h, _ => ⟨h.1, h.2.1, fun k => h.2.2 (hvo _ k).1⟩
  | .str _, _, h, _ => h
  | .agg cs, y, h, hu => by
    obtain ⟨ys, rfl, h1, h2⟩ := h
    exact ⟨ys, rfl, fzL_sound hs lt hvo cs ys h1 (by simpa [fz, LV.under] using hu), h2⟩
  | .tup cs, y, h, hu => by
    obtain ⟨ys, rfl, h1⟩ := h
    exact ⟨ys, rfl, fzL_sound hs lt hvo cs ys h1 (by simpa [fz, LV.under] using hu)⟩
  | .sl sz n g, y, h, hu => by
    obtain ⟨A, cap, rfl, h1, h2, h3, h4⟩ := h
    refine ⟨A, cap, rfl, h1, h2, h3, fun h0 => ?_⟩
    obtain ⟨b, off, rfl, h5, h6, h7⟩ := h4 h0
    refine ⟨b, off, rfl, fun h => h5 (hvo b h).1, h6, fun i hi => ?_⟩
    obtain ⟨ys, h8, h9⟩ := h7 i hi
    exact ⟨ys, closedL (m := m) (m' := Me.base m.w vo lt) rfl (fun k h => (hvo k h).1) (g i) ys h8, h9⟩
  | .sp cs off, y, h, hu => by
    obtain ⟨b, o, ys, rfl, h1, h2, h3, h4⟩ := h
    exact ⟨b, o, ys, rfl, fun h => h1 (hvo b h).1, h2, closedL (m := m) (m' := Me.base m.w vo lt) rfl (fun k h => (hvo k h).1) cs ys h3, h4⟩
  | .lp _ _, _, _, hu => by simp [fz, LV.under, Nat.blt_eq] at hu
  | .el _ _ _ _, _, _, hu => by simp [fz, LV.under, Nat.blt_eq] at hu
  | .ls o n, y, h, hu => by
    simp only [fz] at hu ⊢
    split
    · rename_i ty sz n' g ho
      obtain ⟨h1, rfl, A, c, h2, h3⟩ := h
      obtain ⟨_, ⟨xs, h4, h5, h6⟩, h7⟩ := hs.obj o _ ho
      rw [h2] at h4 ⊢
      rcases h4.2 with ⟨e1, e2⟩ | ⟨gg, cap, cur, e1, _, e3, e4, e5, e6, e7⟩
      · injection e1 with e1 e8 e9
        subst e1; subst e8; subst e9
        exact ⟨none, 0, rfl, Nat.le_refl _, by omega, fun _ => ⟨rfl, rfl⟩, fun h => absurd h (by omega)⟩
      · injection e1 with e1 e8 e9
        subst e1; subst e8; subst e9
        refine ⟨_, c, rfl, e4, by unfold maxLen at e5; omega, (by intro h; cases h), fun h0 => ⟨gg, 0, rfl, fun h => (hvo gg h).2 (h7 gg (by rw [h2]; rfl)).1, (h7 gg (by rw [h2]; rfl)).2, fun i hi => ?_⟩⟩
        obtain ⟨ys, h8, h9, h10⟩ := h6 i hi
        refine ⟨ys, closedL (m := m) (m' := Me.base m.w vo lt) rfl (fun k h => (hvo k h).1) (g i) ys h8, h9, ?_⟩
        rw [Nat.zero_add]
        exact cellsAt_own e3 e7 h5 hi h10
    · trivial
  | .as _ _ _, _, h, hu => by simp [fz, LV.under, Nat.blt_eq] at hu
  | .clo _ _ _, _, h, hu => by
    obtain ⟨fs, cs, rfl, h1, h2⟩ := h
    simp only [fz, LV.under, Bool.and_eq_true] at hu
    exact ⟨fs, cs, rfl, closedL (m := m) (m' := Me.base m.w vo lt) rfl (fun k h => (hvo k h).1) _ _ (RepL.down _ _ hu.1 h1), closedL (m := m) (m' := Me.base m.w vo lt) rfl (fun k h => (hvo k h).1) _ _ (RepL.down _ _ hu.2 h2)⟩
theorem fzL_sound {st : St} {m : Me} {tm : Array Value} (hs : Sim st m tm) {vo : Nat → Prop} (lt : ∀ k, vo k → k < m.w.heap.size) (hvo : ∀ k, vo k → m.vo k ∧ ¬ m.wr k) : ∀ (xs : List LV) (ys : List Value), RepL m st.next xs ys → underL 0 (fzL st.objs xs) = true → RepL (Me.base m.w vo lt) 0 (fzL st.objs xs) ys
  | [], _, h, _ => h
  | x :: xs, ys, h, hu => by
    obtain ⟨y, r, rfl, h1, h2⟩ := h
    simp only [fzL, underL, Bool.and_eq_true] at hu
    exact ⟨y, r, rfl, fz_sound hs lt hvo x y h1 hu.1, fzL_sound hs lt hvo xs r h2 hu.2⟩
end

end Go.Proofs.Aw
namespace Go.Proofs.Aw
open Go Go.RowKit

theorem Ok.base (w : World) (vo : Nat → Prop) (lt : ∀ k, vo k → k < w.heap.size) : Ok (Me.base w vo lt) St.nil (Me.base w vo lt) #[] :=
  ⟨⟨rfl, fun k h => absurd h (by simp), fun o ob h => by simp [St.nil, lookO] at h, fun o o' ob ob' h => by simp [St.nil, lookO] at h⟩, Fr.refl _, rfl⟩

theorem Kept.of {w : World} {vo : Nat → Prop} {lt : ∀ k, vo k → k < w.heap.size} {m' : Me} (h : Fr (Me.base w vo lt) m') : Kept w m'.w :=
  ⟨⟨h.os, h.tape, h.output⟩, h.size, fun k hk => h.keep k hk fun h => h⟩

/-- what comes back is this, all that the call made being kept -/
def isRes (res : LV) (x : LV) (st : St) : Prop := frc (fz st.objs x) fun y => LV.le y res ∧ y.under 0 = true

theorem Ct.ofCall {P : Program} {f : FuncId} {args : List LV} {res : LV} (h : CallA P f args (isRes res) (fun _ _ => False) St.nil) : Ct P f args res := by
  refine ⟨h.1, fun w vo lt vs hargs => ?_⟩
  refine (h.2 (Me.base w vo lt) (Me.base w vo lt) #[] vs (Ok.base w vo lt) hargs).mono ?_
  rintro e w' ⟨st', m', rfl, h1, h2⟩
  rcases h2 with ⟨y, x, rfl, h3, h4⟩ | ⟨x, _, h3⟩
  · rw [isRes, frc_eq] at h4
    obtain ⟨h4, h5⟩ := h4
    have hk := Kept.of h1.fr
    have lt' : ∀ k, vo k → k < m'.w.heap.size := fun k hk2 => Nat.lt_of_lt_of_le (lt k hk2) hk.size
    refine ⟨y, lt', rfl, hk, h4 _ _ _ (fz_sound h1.sim lt' (fun k hk2 => ⟨h1.fr.vk k hk2 fun h => h, fun hw => ?_⟩) x y h3 h5)⟩
    rcases h1.fr.wr k hw with h6 | h6
    · exact h6
    · have := lt k hk2
      have h6 : w.heap.size ≤ k := h6
      omega
  · exact h3.elim

/-- a function, walked -/
theorem Ct.enter {P : Program} {T : Tab} (hT : T.Ok P) {f : FuncId} {fn : Func} {args : List LV} {res : LV} (hx : FnText P f fn args.length)
    (h : runC P T fn.ntmps (bodyOf fn) (bodyK T fn.results.toList (isRes res) (fun _ _ => False) St.nil) (St.nil.enter args)) : Ct P f args res :=
  Ct.ofCall (CallA.body hT hx h)

/-- a function, by its contract -/
theorem Ct.call {P : Program} {f : FuncId} {args : List LV} {res : LV} (h : Ct P f args res) {k : LV → St → Prop} {kp : Value → St → Prop} {st : St} (hc : underL 0 args = true) (hk : k res st) : CallA P f args k kp st := by
  refine ⟨h.1, fun org m tm vs hO hargs => ?_⟩
  have h1 := closedL (m := m) (m' := Me.base m.w m.vo m.lt) rfl (fun k h => h) _ _ (RepL.down _ _ hc hargs)
  refine (h.2 m.w m.vo m.lt vs h1).mono ?_
  rintro e w' ⟨y, lt', rfl, hkept, hr⟩
  obtain ⟨h2, h3⟩ := hO.drew w' hkept.sys hkept.size hkept.keep
  refine ⟨st, m.on w' hkept.size, rfl, h2, .inl ⟨y, res, rfl, ?_, hk⟩⟩
  have := closed (m := Me.base w' m.vo lt') (m' := m.on w' hkept.size) rfl (fun k h => h) _ _ hr
  exact this.up (Nat.zero_le _) (Nat.zero_le _)

mutual
def LV.flat : LV → Bool
  | .any => true
  | .v _ => true
  | .bs _ => true
  | .str _ => true
  | .agg cs => flatL cs
  | .tup cs => flatL cs
  | _ => false
def flatL : List LV → Bool
  | [] => true
  | x :: xs => x.flat && flatL xs
end
mutual
theorem Rep.flat {m m' : Me} {N N' : Nat} : ∀ (x : LV) (y : Value), x.flat = true → Rep m N x y → Rep m' N' x y
  | .any, _, _, _ => trivial
  | .v _, _, _, h => h
  | .bs _, _, _, h => h
  | .str _, _, _, h => h
  | .agg cs, y, hu, h => by
    obtain ⟨ys, rfl, h1, h2⟩ := h
    exact ⟨ys, rfl, RepL.flat cs ys (by simpa [LV.flat] using hu) h1, h2⟩
  | .tup cs, y, hu, h => by
    obtain ⟨ys, rfl, h1⟩ := h
    exact ⟨ys, rfl, RepL.flat cs ys (by simpa [LV.flat] using hu) h1⟩
  | .sl _ _ _, _, hu, _ => by simp [LV.flat] at hu
  | .sp _ _, _, hu, _ => by simp [LV.flat] at hu
  | .lp _ _, _, hu, _ => by simp [LV.flat] at hu
  | .el _ _ _ _, _, hu, _ => by simp [LV.flat] at hu
  | .ls _ _, _, hu, _ => by simp [LV.flat] at hu
  | .as _ _ _, _, hu, _ => by simp [LV.flat] at hu
  | .clo _ _ _, _, hu, _ => by simp [LV.flat] at hu
  | .ly _ _ _, _, hu, _ => by simp [LV.flat] at hu
theorem RepL.flat {m m' : Me} {N N' : Nat} : ∀ (xs : List LV) (ys : List Value), flatL xs = true → RepL m N xs ys → RepL m' N' xs ys
  | [], _, _, h => h
  | x :: xs, ys, hu, h => by
    obtain ⟨y, r, rfl, h1, h2⟩ := h
    simp only [flatL, Bool.and_eq_true] at hu
    exact ⟨y, r, rfl, Rep.flat x y hu.1 h1, RepL.flat xs r hu.2 h2⟩
end

/-- by its contract, handed slices of the call's own; what comes back lies nowhere in memory -/
theorem Ct.callV {P : Program} {f : FuncId} {args0 args : List LV} {res : LV} (h : Ct P f args res) {k : LV → St → Prop} {kp : Value → St → Prop} {st : St} (ha : fzL st.objs args0 = args) (hc : underL 0 args = true) (hf : res.flat = true) (hk : k res st) : CallA P f args0 k kp st := by
  subst ha
  refine ⟨h.1, fun org m tm vs hO hargs => ?_⟩
  have h1 := fzL_sound hO.sim (vo := fun _ => False) (fun _ h => h.elim) (fun _ h => h.elim) args0 vs hargs hc
  refine (h.2 m.w (fun _ => False) (fun _ h => h.elim) vs h1).mono ?_
  rintro e w' ⟨y, lt', rfl, hkept, hr⟩
  obtain ⟨h2, h3⟩ := hO.drew w' hkept.sys hkept.size hkept.keep
  exact ⟨st, m.on w' hkept.size, rfl, h2, .inl ⟨y, res, rfl, Rep.flat _ _ hf hr, hk⟩⟩

end Go.Proofs.Aw
