/- A PART OF THE PROOF: an abstract run of the loaded code over value trees, and the functions walked by it. No condition of its own. -/
import Derived.Test.YtanmknmlphkeaaaDoorA18
namespace Go.Proofs.Aw
open Go Go.RowKit

theorem Ok.base (w : World) (vo : Nat → Prop) (lt : ∀ k, vo k → k < w.heap.size) : Ok (Me.base w vo lt) St.nil (Me.base w vo lt) #[] :=
  ⟨⟨rfl, fun k h => absurd h (by simp), fun o ob h => by simp [St.nil, lookO] at h, fun o o' ob ob' h => by simp [St.nil, lookO] at h⟩, Fr.refl _, rfl⟩

theorem Kept.of {w : World} {vo : Nat → Prop} {lt : ∀ k, vo k → k < w.heap.size} {m' : Me} (h : Fr (Me.base w vo lt) m') : Kept w m'.w :=
  ⟨⟨h.os, h.tape, h.output⟩, h.size, fun k hk => h.keep k hk fun h => h⟩

/-- what comes back is this, all that the call made being kept -/
def isRes (res : LV) (x : LV) (st : St) : Prop := frc (fz st.objs x) fun y => LV.le y res ∧ y.under 0 = true

theorem Ct.ofCall {P : Program} {f : FuncId} {args : List LV} {res : LV} (h : CallA P f args (isRes res) (fun _ _ => False) St.nil) : Ct P f args res := by
  refine ⟨h.1, fun w vo lt vs hargs => ?_⟩
  refine (h.2 (Me.base w vo lt) (Me.base w vo lt) #[] vs (Ok.base w vo lt) hargs).mono ?_
  rintro e w' ⟨st', m', rfl, h1, h2⟩
  rcases h2 with ⟨y, x, rfl, h3, h4⟩ | ⟨x, _, h3⟩
  · rw [isRes, frc_eq] at h4
    obtain ⟨h4, h5⟩ := h4
    have hk := Kept.of h1.fr
    have lt' : ∀ k, vo k → k < m'.w.heap.size := fun k hk2 => Nat.lt_of_lt_of_le (lt k hk2) hk.size
    refine ⟨y, lt', rfl, hk, h4 _ _ _ (fz_sound h1.sim lt' (fun k hk2 => ⟨h1.fr.vk k hk2 fun h => h, fun hw => ?_⟩) x y h3 h5)⟩
    rcases h1.fr.wr k hw with h6 | h6
    · exact h6
    · have := lt k hk2
      have h6 : w.heap.size ≤ k := h6
      omega
  · exact h3.elim

/-- a function, walked -/
theorem Ct.enter {P : Program} {T : Tab} (hT : T.Ok P) {f : FuncId} {fn : Func} {args : List LV} {res : LV} (hx : FnText P f fn args.length)
    (h : runC P T fn.ntmps (bodyOf fn) (bodyK T fn.results.toList (isRes res) (fun _ _ => False) St.nil) (St.nil.enter args)) : Ct P f args res :=
  Ct.ofCall (CallA.body hT hx h)

/-- a function, by its contract -/
theorem Ct.call {P : Program} {f : FuncId} {args : List LV} {res : LV} (h : Ct P f args res) {k : LV → St → Prop} {kp : Value → St → Prop} {st : St} (hc : underL 0 args = true) (hk : k res st) : CallA P f args k kp st := by
  refine ⟨h.1, fun org m tm vs hO hargs => ?_⟩
  have h1 := closedL (m := m) (m' := Me.base m.w m.vo m.lt) rfl (fun k h => h) _ _ (RepL.down _ _ hc hargs)
  refine (h.2 m.w m.vo m.lt vs h1).mono ?_
  rintro e w' ⟨y, lt', rfl, hkept, hr⟩
  obtain ⟨h2, h3⟩ := hO.drew w' hkept.sys hkept.size hkept.keep
  refine ⟨st, m.on w' hkept.size, rfl, h2, .inl ⟨y, res, rfl, ?_, hk⟩⟩
  have := closed (m := Me.base w' m.vo lt') (m' := m.on w' hkept.size) rfl (fun k h => h) _ _ hr
  exact this.up (Nat.zero_le _) (Nat.zero_le _)

mutual
def LV.flat : LV → Bool
  | .any => true
  | .v _ => true
  | .bs _ => true
  | .str _ => true
  | .agg cs => flatL cs
  | .tup cs => flatL cs
  | _ => false
def flatL : List LV → Bool
  | [] => true
  | x :: xs => x.flat && flatL xs
end
mutual
theorem Rep.flat {m m' : Me} {N N' : Nat} : ∀ (x : LV) (y : Value), x.flat = true → Rep m N x y → Rep m' N' x y
  | .any, _, _, _ => trivial
  | .v _, _, _, h => h
  | .bs _, _, _, h => h
  | .str _, _, _, h => h
  | .agg cs, y, hu, h => by
    obtain ⟨ys, rfl, h1, h2⟩ := h
    exact ⟨ys, rfl, RepL.flat cs ys (by simpa [LV.flat] using hu) h1, h2⟩
  | .tup cs, y, hu, h => by
    obtain ⟨ys, rfl, h1⟩ := h
    exact ⟨ys, rfl, RepL.flat cs ys (by simpa [LV.flat] using hu) h1⟩
  | .sl _ _ _, _, hu, _ => by simp [LV.flat] at hu
  | .sp _ _, _, hu, _ => by simp [LV.flat] at hu
  | .lp _ _, _, hu, _ => by simp [LV.flat] at hu
  | .el _ _ _ _, _, hu, _ => by simp [LV.flat] at hu
  | .ls _ _, _, hu, _ => by simp [LV.flat] at hu
  | .clo _ _ _, _, hu, _ => by simp [LV.flat] at hu
theorem RepL.flat {m m' : Me} {N N' : Nat} : ∀ (xs : List LV) (ys : List Value), flatL xs = true → RepL m N xs ys → RepL m' N' xs ys
  | [], _, _, h => h
  | x :: xs, ys, hu, h => by
    obtain ⟨y, r, rfl, h1, h2⟩ := h
    simp only [flatL, Bool.and_eq_true] at hu
    exact ⟨y, r, rfl, Rep.flat x y hu.1 h1, RepL.flat xs r hu.2 h2⟩
end

/-- by its contract, handed slices of the call's own; what comes back lies nowhere in memory -/
theorem Ct.callV {P : Program} {f : FuncId} {args0 args : List LV} {res : LV} (h : Ct P f args res) {k : LV → St → Prop} {kp : Value → St → Prop} {st : St} (ha : fzL st.objs args0 = args) (hc : underL 0 args = true) (hf : res.flat = true) (hk : k res st) : CallA P f args0 k kp st := by
  subst ha
  refine ⟨h.1, fun org m tm vs hO hargs => ?_⟩
  have h1 := fzL_sound hO.sim (vo := fun _ => False) (fun _ h => h.elim) (fun _ h => h.elim) args0 vs hargs hc
  refine (h.2 m.w (fun _ => False) (fun _ h => h.elim) vs h1).mono ?_
  rintro e w' ⟨y, lt', rfl, hkept, hr⟩
  obtain ⟨h2, h3⟩ := hO.drew w' hkept.sys hkept.size hkept.keep
  exact ⟨st, m.on w' hkept.size, rfl, h2, .inl ⟨y, res, rfl, Rep.flat _ _ hf hr, hk⟩⟩

end Go.Proofs.Aw
