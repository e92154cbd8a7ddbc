/- A PART OF THE PROOF: an abstract run of the loaded code over value trees, and the functions walked by it. No condition of its own. -/
import Derived.Test.YtanmknmlphkeaaaDoorA23
namespace Go.Proofs.Aw
open Go Go.RowKit

/-- by its contract, handed slices of the call's own as views; a new slice comes back -/
theorem CtN.callL {P : Program} {f : FuncId} {args0 args : List LV} {ty sz n : Nat} {g : Nat → List LV} (h : CtN P f args ty sz n g) {k : LV → St → Prop} {kp : Value → St → Prop} {st : St} (hc : underL 0 (fzL st.objs args0) = true) (ha : leL (fzL st.objs args0) args) (hk : k (.ls st.next n) (st.new (.arr ty sz n g))) : CallA P f args0 k kp st := by
  refine ⟨h.1, fun org m tm vs hO hargs => ?_⟩
  have h1 := RepL.le ha (fzL_sound hO.sim (vo := fun _ => False) (fun _ h => h.elim) (fun _ h => h.elim) args0 vs hargs hc)
  refine (h.2.2 m.w (fun _ => False) (fun _ h => h.elim) vs h1).mono ?_
  rintro e w' ⟨y, xs, rfl, hkept, e1, e2, e3⟩
  obtain ⟨m', h2, h3, h4⟩ := CtN.after hO h.2.1 hkept e1 e2 e3
  refine ⟨_, m', h2, h3, .inl ⟨y, _, rfl, ?_, hk⟩⟩
  cases st; exact h4

/-- by its contract, handed slices of the call's own as views; what comes back lies nowhere in memory -/
theorem Ct.callF {P : Program} {f : FuncId} {args0 args : List LV} {res : LV} (h : Ct P f args res) {k : LV → St → Prop} {kp : Value → St → Prop} {st : St} (hc : underL 0 (fzL st.objs args0) = true) (ha : leL (fzL st.objs args0) args) (hf : res.flat = true) (hk : k res st) : CallA P f args0 k kp st := by
  refine ⟨h.1, fun org m tm vs hO hargs => ?_⟩
  have h1 := RepL.le ha (fzL_sound hO.sim (vo := fun _ => False) (fun _ h => h.elim) (fun _ h => h.elim) args0 vs hargs hc)
  refine (h.2 m.w (fun _ => False) (fun _ h => h.elim) vs h1).mono ?_
  rintro e w' ⟨y, lt', rfl, hkept, hr⟩
  obtain ⟨h2, h3⟩ := hO.drew w' hkept.sys hkept.size hkept.keep
  exact ⟨st, m.on w' hkept.size, rfl, h2, .inl ⟨y, res, rfl, Rep.flat _ _ hf hr, hk⟩⟩

/-- by its contract, all that is handed being closed -/
theorem Ct.callC {P : Program} {f : FuncId} {args0 args : List LV} {res : LV} (h : Ct P f args res) {k : LV → St → Prop} {kp : Value → St → Prop} {st : St} (hc : underL 0 args0 = true) (ha : leL args0 args) (hk : k res st) : CallA P f args0 k kp st := by
  refine ⟨h.1, fun org m tm vs hO hargs => ?_⟩
  have h1 := RepL.le ha (closedL (m := m) (m' := Me.base m.w m.vo m.lt) rfl (fun k h => h) _ _ (RepL.down _ _ hc hargs))
  refine (h.2 m.w m.vo m.lt vs h1).mono ?_
  rintro e w' ⟨y, lt', rfl, hkept, hr⟩
  obtain ⟨h2, h3⟩ := hO.drew w' hkept.sys hkept.size hkept.keep
  refine ⟨st, m.on w' hkept.size, rfl, h2, .inl ⟨y, res, rfl, ?_, hk⟩⟩
  have := closed (m := Me.base w' m.vo lt') (m' := m.on w' hkept.size) rfl (fun k h => h) _ _ hr
  exact this.up (Nat.zero_le _) (Nat.zero_le _)

end Go.Proofs.Aw
namespace Go.Proofs.Aw
open Go
mutual
theorem LV.under_mono {N M : Nat} (h : N ≤ M) : ∀ (x : LV), x.under N = true → x.under M = true
  | .any, _ => rfl
  | .v _, _ => rfl
  | .bs _, _ => rfl
  | .str _, _ => rfl
  | .sl _ _ _, _ => rfl
  | .sp _ _, _ => rfl
  | .agg cs, hu => by simp only [LV.under] at hu ⊢; exact underL_mono h cs hu
  | .tup cs, hu => by simp only [LV.under] at hu ⊢; exact underL_mono h cs hu
  | .lp o _, hu => by simp only [LV.under, Nat.blt_eq] at hu ⊢; omega
  | .el o _ _ _, hu => by simp only [LV.under, Nat.blt_eq] at hu ⊢; omega
  | .ls o _, hu => by simp only [LV.under, Nat.blt_eq] at hu ⊢; omega
  | .clo _ a b, hu => by
    simp only [LV.under, Bool.and_eq_true] at hu ⊢
    exact ⟨underL_mono h a hu.1, underL_mono h b hu.2⟩
theorem underL_mono {N M : Nat} (h : N ≤ M) : ∀ (xs : List LV), underL N xs = true → underL M xs = true
  | [], _ => rfl
  | x :: xs, hu => by
    simp only [underL, Bool.and_eq_true] at hu ⊢
    exact ⟨LV.under_mono h x hu.1, underL_mono h xs hu.2⟩
end
theorem LO.under_mono {N M : Nat} (h : N ≤ M) {x : LO} (hu : x.under N = true) : x.under M = true := by
  cases x with
  | box _ cs => exact underL_mono h cs hu
  | arr _ _ _ _ => rfl
end Go.Proofs.Aw
namespace Go.Proofs.Aw
open Go
theorem LO.le.arrL {ty sz n n' : Nat} {g g' : Nat → List LV} (hn : n = n') (h : ∀ i, i < n → leL (g i) (g' i)) : LO.le (.arr ty sz n g) (.arr ty sz n' g') := by
  subst hn
  intro m N y hr
  obtain ⟨xs, h1, h2, h3⟩ := hr
  exact ⟨xs, h1, h2, fun i hi => by
    obtain ⟨ys, e1, e2⟩ := h3 i hi
    exact ⟨ys, RepL.le (h i hi) e1, e2⟩⟩
theorem LV.le.slL {sz n n' : Nat} {g g' : Nat → List LV} (hn : n = n') (h : ∀ i, i < n → leL (g i) (g' i)) : LV.le (.sl sz n g) (.sl sz n' g') := by
  subst hn
  intro m N y hr
  obtain ⟨A, cap, rfl, h1, h2, h3, h4⟩ := hr
  refine ⟨A, cap, rfl, h1, h2, h3, fun h0 => ?_⟩
  obtain ⟨b, off, rfl, h5, h6, h7⟩ := h4 h0
  refine ⟨b, off, rfl, h5, h6, fun i hi => ?_⟩
  obtain ⟨ys, e1, e2⟩ := h7 i hi
  exact ⟨ys, RepL.le (h i hi) e1, e2⟩
theorem leL.of {a b : List LV} (h : a = b) : leL a b := by subst h; exact leL.refl a
end Go.Proofs.Aw
