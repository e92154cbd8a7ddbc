/- A PART OF THE PROOF: an abstract run of the loaded code over value trees, and the functions walked by it. No condition of its own. -/
import Derived.Test.YtanmknmlphkeaaaDoorA17
namespace Go.Proofs.Aw
open Go Go.RowKit

/-- behind a call: the caller's frame over the callee's memory -/
theorem Ok.back {org : Me} {st st' : St} {m m' : Me} {tm tm' : Array Value} (h : Ok org st m tm) (hf : Fr m m') (hs : Sim st' m' tm') : Ok org (st.back st') m' tm := by
  have e := h.sim.n
  have e' := hs.n
  have h4 := hf.n
  exact ⟨⟨hs.n, fun k hk => Rep.fr hf st.next st'.next (by omega) (by omega) _ _ (h.sim.env k hk), hs.obj, hs.apart⟩, h.fr.trans hf, h.low⟩

def bodyK (T : Tab) (rs : List ResultVar) (k : LV → St → Prop) (kp : Value → St → Prop) (st : St) : AX → St → Prop
  | .normal, st' => resK T st' rs fun x => k x (st.back st')
  | .ret, st' => resK T st' rs fun x => k x (st.back st')
  | .pan x, st' => kp x (st.back st')
  | .exit _, _ => False

def bodyOf (fn : Func) : Code := fn.body.getD .skip
/-- what a function's text must meet; closed -/
structure FnText (P : Program) (f : FuncId) (fn : Func) (np : Nat) : Prop where
  at_ : P.funcs[f]? = some fn
  body : fn.body.isSome = true
  ok : FnOk P f
  code : codeOk fn.ntmps (bodyOf fn) = true
  res : fn.results.toList.all (resOk fn.ntmps) = true
  par : Nat.ble np fn.ntmps = true
theorem FnText.some {P : Program} {f : FuncId} {fn : Func} {np : Nat} (h : FnText P f fn np) : fn.body = Option.some (bodyOf fn) := by
  have := h.body
  unfold bodyOf
  cases hb : fn.body with
  | none => rw [hb] at this; cases this
  | some c => rfl

theorem CallA.body {P : Program} {T : Tab} (hT : T.Ok P) {f : FuncId} {fn : Func} {args : List LV} (hx : FnText P f fn args.length) {k : LV → St → Prop} {kp : Value → St → Prop} {st : St}
    (h : runC P T fn.ntmps (bodyOf fn) (bodyK T fn.results.toList k kp st) (st.enter args)) : CallA P f args k kp st := by
  refine ⟨hx.ok, fun org m tm vs hO hargs => ?_⟩
  have hpar := Nat.le_of_ble_eq_true hx.par
  have hlen := hargs.length
  have e := hO.sim.n
  refine calls_of_wp hx.at_ hx.some ?_
  have hsz : (vs.toArray ++ Array.replicate (fn.ntmps - vs.toArray.size) undef).size = fn.ntmps := by simp; omega
  have hAW := runC_sound (P := P) (org := m) (ds := []) hT (bodyOf fn) _ (st.enter args) hx.code h m (vs.toArray ++ Array.replicate (fn.ntmps - vs.toArray.size) undef) hsz
    ⟨⟨e, fun i hi => by
      show Rep m st.next (look i (argEnv 0 args)) _
      rw [look_args]
      simp only [Nat.zero_le, if_true, Nat.sub_zero]
      by_cases hia : i < args.length
      · rw [List.getElem?_eq_getElem hia]
        obtain ⟨y, hy, hr⟩ := hargs.get i args[i] (List.getElem?_eq_getElem hia)
        have : (vs.toArray ++ Array.replicate (fn.ntmps - vs.toArray.size) undef)[i] = y := by
          rw [Array.getElem_append_left (by simp; omega)]
          have := (List.getElem?_eq_some_iff.1 hy).2
          simpa using this
        rw [this]
        exact hr
      · rw [List.getElem?_eq_none (by omega)]
        exact trivial, hO.sim.obj, hO.sim.apart⟩, Fr.refl m, e.symm⟩
  refine Code.wp_mono ?_ hAW
  rintro ex ⟨tm', ds'⟩ w' ⟨rfl, h2, x, st', m', rfl, h3, rfl, h4⟩
  have h2 : tm'.size = fn.ntmps := h2
  have hres : fn.results.toList.all (resOk tm'.size) = true := by rw [h2]; exact hx.res
  have fin : resK T st' fn.results.toList (fun x => k x (st.back st')) → bodyPost P fn (fun e w' => ∃ st' m', m'.w = w' ∧ Ok org st' m' tm ∧ ((∃ y x, e = .returned y ∧ Rep m' st'.next x y ∧ k x st') ∨ (∃ x, e = .panicked [{ v := x, recovered := false }] ∧ kp x st'))) .ret ⟨tm', []⟩ m'.w := by
    intro h3
    obtain ⟨r, v, h5, h6, h7⟩ := resK_sound (P := P) hT h4.sim (fn := fn) hres h3
    exact ⟨rfl, v, h7, st.back st', m', rfl, hO.back h4.fr h4.sim, .inl ⟨v, r, rfl, h6, h5⟩⟩
  cases x with
  | normal => exact fin h3
  | ret => exact fin h3
  | exit id => exact h3.elim
  | pan x => exact ⟨rfl, st.back st', m', rfl, hO.back h4.fr h4.sim, .inr ⟨x, rfl, h3⟩⟩

/-! ### a contract over trees -/
mutual
/-- what the call made is kept for good -/
def fz (objs : List (Nat × LO)) : LV → LV
  | .ls o n => match lookO o objs with
    | some (.arr _ sz _ g) => .sl sz n g
    | _ => .any
  | .agg cs => .agg (fzL objs cs)
  | .tup cs => .tup (fzL objs cs)
  | x => x
def fzL (objs : List (Nat × LO)) : List LV → List LV
  | [] => []
  | x :: xs => fz objs x :: fzL objs xs
end

def Me.base (w : World) (vo : Nat → Prop) (lt : ∀ k, vo k → k < w.heap.size) : Me := ⟨w, fun _ => undef, vo, fun _ => False, 0, fun _ h => h.elim, lt⟩

structure Kept (w w' : World) : Prop where
  sys : SameSys w w'
  size : w.heap.size ≤ w'.heap.size
  keep : ∀ k, k < w.heap.size → w'.heap[k]? = w.heap[k]?

/-- called with these, function f gives this, and leaves all memory as it was -/
def Ct (P : Program) (f : FuncId) (args : List LV) (res : LV) : Prop :=
  FnOk P f ∧ ∀ w vo lt vs, RepL (Me.base w vo lt) 0 args vs → Calls P f vs.toArray w fun e w' => ∃ y lt', e = .returned y ∧ Kept w w' ∧ Rep (Me.base w' vo lt') 0 res y

def St.nil : St := ⟨[], [], 0, 0⟩

mutual
/-- what names no object of the call's own, under another view of what may change -/
theorem closed {m m' : Me} (hw : m'.w = m.w) (hvo : ∀ k, m'.vo k → m.vo k) : ∀ (x : LV) (y : Value), Rep m 0 x y → Rep m' 0 x y
  | .any, _, _ => trivial
  | .v _, _, h => h
  | .bs _, _, h => h
  | .str _, _, h => h
  | .agg cs, y, h => by
    obtain ⟨ys, rfl, h1, h2⟩ := h
    exact ⟨ys, rfl, closedL hw hvo cs ys h1, h2⟩
  | .tup cs, y, h => by
    obtain ⟨ys, rfl, h1⟩ := h
    exact ⟨ys, rfl, closedL hw hvo cs ys h1⟩
  | .sl sz n g, y, h => by
    obtain ⟨A, cap, rfl, h1, h2, h3, h4⟩ := h
    refine ⟨A, cap, rfl, h1, h2, h3, fun h0 => ?_⟩
    obtain ⟨b, off, rfl, h5, h6, h7⟩ := h4 h0
    refine ⟨b, off, rfl, fun h => h5 (hvo b h), by rw [hw]; exact h6, fun i hi => ?_⟩
    obtain ⟨ys, h8, h9⟩ := h7 i hi
    exact ⟨ys, closedL hw hvo (g i) ys h8, by rw [hw]; exact h9⟩
  | .sp cs off, y, h => by
    obtain ⟨b, o, ys, rfl, h1, h2, h3, h4⟩ := h
    exact ⟨b, o, ys, rfl, fun h => h1 (hvo b h), by rw [hw]; exact h2, closedL hw hvo cs ys h3, by rw [hw]; exact h4⟩
  | .lp _ _, _, h => absurd h.1 (by omega)
  | .el _ _ _ _, _, h => absurd h.1 (by omega)
  | .ls _ _, _, h => absurd h.1 (by omega)
  | .clo _ a b, _, h => by
    obtain ⟨fs, cs, rfl, h1, h2⟩ := h
    exact ⟨fs, cs, rfl, closedL hw hvo a fs h1, closedL hw hvo b cs h2⟩
theorem closedL {m m' : Me} (hw : m'.w = m.w) (hvo : ∀ k, m'.vo k → m.vo k) : ∀ (xs : List LV) (ys : List Value), RepL m 0 xs ys → RepL m' 0 xs ys
  | [], _, h => h
  | x :: xs, ys, h => by
    obtain ⟨y, r, rfl, h1, h2⟩ := h
    exact ⟨y, r, rfl, closed hw hvo x y h1, closedL hw hvo xs r h2⟩
end

mutual
theorem fz_sound {st : St} {m : Me} {tm : Array Value} (hs : Sim st m tm) {vo : Nat → Prop} (lt : ∀ k, vo k → k < m.w.heap.size) (hvo : ∀ k, vo k → m.vo k ∧ ¬ m.wr k) : ∀ (x : LV) (y : Value), Rep m st.next x y → (fz st.objs x).under 0 = true → Rep (Me.base m.w vo lt) 0 (fz st.objs x) y
  | .any, _, _, _ => trivial
  | .v _, _, h, _ => h
  | .bs _, _, h, _ => h
  | .str _, _, h, _ => h
  | .agg cs, y, h, hu => by
    obtain ⟨ys, rfl, h1, h2⟩ := h
    exact ⟨ys, rfl, fzL_sound hs lt hvo cs ys h1 (by simpa [fz, LV.under] using hu), h2⟩
  | .tup cs, y, h, hu => by
    obtain ⟨ys, rfl, h1⟩ := h
    exact ⟨ys, rfl, fzL_sound hs lt hvo cs ys h1 (by simpa [fz, LV.under] using hu)⟩
  | .sl sz n g, y, h, hu => by
    obtain ⟨A, cap, rfl, h1, h2, h3, h4⟩ := h
    refine ⟨A, cap, rfl, h1, h2, h3, fun h0 => ?_⟩
    obtain ⟨b, off, rfl, h5, h6, h7⟩ := h4 h0
    refine ⟨b, off, rfl, fun h => h5 (hvo b h).1, h6, fun i hi => ?_⟩
    obtain ⟨ys, h8, h9⟩ := h7 i hi
    exact ⟨ys, closedL (m := m) (m' := Me.base m.w vo lt) rfl (fun k h => (hvo k h).1) (g i) ys h8, h9⟩
  | .sp cs off, y, h, hu => by
    obtain ⟨b, o, ys, rfl, h1, h2, h3, h4⟩ := h
    exact ⟨b, o, ys, rfl, fun h => h1 (hvo b h).1, h2, closedL (m := m) (m' := Me.base m.w vo lt) rfl (fun k h => (hvo k h).1) cs ys h3, h4⟩
  | .lp _ _, _, _, hu => by simp [fz, LV.under, Nat.blt_eq] at hu
  | .el _ _ _ _, _, _, hu => by simp [fz, LV.under, Nat.blt_eq] at hu
  | .ls o n, y, h, hu => by
    simp only [fz] at hu ⊢
    split
    · rename_i ty sz n' g ho
      obtain ⟨h1, rfl, A, c, h2, h3⟩ := h
      obtain ⟨_, ⟨xs, h4, h5, h6⟩, h7⟩ := hs.obj o _ ho
      rw [h2] at h4 ⊢
      rcases h4.2 with ⟨e1, e2⟩ | ⟨gg, cap, cur, e1, _, e3, e4, e5, e6, e7⟩
      · injection e1 with e1 e8 e9
        subst e1; subst e8; subst e9
        exact ⟨none, 0, rfl, Nat.le_refl _, by omega, fun _ => ⟨rfl, rfl⟩, fun h => absurd h (by omega)⟩
      · injection e1 with e1 e8 e9
        subst e1; subst e8; subst e9
        refine ⟨_, c, rfl, e4, by unfold maxLen at e5; omega, (by intro h; cases h), fun h0 => ⟨gg, 0, rfl, fun h => (hvo gg h).2 (h7 gg (by rw [h2]; rfl)).1, (h7 gg (by rw [h2]; rfl)).2, fun i hi => ?_⟩⟩
        obtain ⟨ys, h8, h9, h10⟩ := h6 i hi
        refine ⟨ys, closedL (m := m) (m' := Me.base m.w vo lt) rfl (fun k h => (hvo k h).1) (g i) ys h8, h9, ?_⟩
        rw [Nat.zero_add]
        exact cellsAt_own e3 e7 h5 hi h10
    · trivial
  | .clo _ _ _, _, h, hu => by
    obtain ⟨fs, cs, rfl, h1, h2⟩ := h
    simp only [fz, LV.under, Bool.and_eq_true] at hu
    exact ⟨fs, cs, rfl, closedL (m := m) (m' := Me.base m.w vo lt) rfl (fun k h => (hvo k h).1) _ _ (RepL.down _ _ hu.1 h1), closedL (m := m) (m' := Me.base m.w vo lt) rfl (fun k h => (hvo k h).1) _ _ (RepL.down _ _ hu.2 h2)⟩
theorem fzL_sound {st : St} {m : Me} {tm : Array Value} (hs : Sim st m tm) {vo : Nat → Prop} (lt : ∀ k, vo k → k < m.w.heap.size) (hvo : ∀ k, vo k → m.vo k ∧ ¬ m.wr k) : ∀ (xs : List LV) (ys : List Value), RepL m st.next xs ys → underL 0 (fzL st.objs xs) = true → RepL (Me.base m.w vo lt) 0 (fzL st.objs xs) ys
  | [], _, h, _ => h
  | x :: xs, ys, h, hu => by
    obtain ⟨y, r, rfl, h1, h2⟩ := h
    simp only [fzL, underL, Bool.and_eq_true] at hu
    exact ⟨y, r, rfl, fz_sound hs lt hvo x y h1 hu.1, fzL_sound hs lt hvo xs r h2 hu.2⟩
end

end Go.Proofs.Aw
