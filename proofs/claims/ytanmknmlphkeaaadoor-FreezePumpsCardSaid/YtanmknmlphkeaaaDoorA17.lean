/- A PART OF THE PROOF: an abstract run of the loaded code over value trees, and the functions walked by it. No condition of its own. -/
import Derived.Test.YtanmknmlphkeaaaDoorA16
namespace Go.Proofs.Aw
open Go Go.RowKit

def readRes (tm : Array Value) : ResultVar → Sem Value
  | .tmp t => Pure.pure (tm.getD t undef)
  | .cell a t => do loadVar t (← asAddr (tm.getD a undef))
theorem results_eq (fn : Func) (tm : Array Value) : results fn tm = (do let vs ← fn.results.mapM (readRes tm); Pure.pure (if h : vs.size = 1 then vs[0] else .tuple vs)) := by
  have h : (fun (r : ResultVar) => (match r with
    | .tmp t => Pure.pure (tm.getD t undef)
    | .cell a t => do loadVar t (← asAddr (tm.getD a undef)) : Sem Value)) = readRes tm := by
    funext r
    cases r <;> rfl
  rw [← h]
  rfl

theorem resA_sound {P : Program} {T : Tab} (hT : T.Ok P) {st : St} {m : Me} {tm : Array Value} (hs : Sim st m tm) {r : ResultVar} (hr : resOk tm.size r = true) {K : LV → Prop} (h : resA T st r K) :
    ∃ x v, K x ∧ Rep m st.next x v ∧ (readRes tm r).run P m.w = .ok v m.w := by
  cases r with
  | tmp t => exact ⟨_, _, h, hs.slot t (by simpa [resOk, Nat.blt_eq] using hr), rfl⟩
  | cell a t =>
    simp only [resA] at h
    split at h
    · rename_i ti hti
      obtain ⟨b, o, cs, off, ys, h1, h2, h3, h4⟩ := memA_sound hs h (hs.slot a (by simpa [resOk, Nat.blt_eq] using hr))
      obtain ⟨x, y, h5, h6, h7⟩ := run_loadVar_at (hT.find hti) h4 h3 h1
      refine ⟨x, y, h5, h6, ?_⟩
      simp only [readRes, h2, asAddr, Sem.run_bind, Sem.run_pure, Result.andThen_ok, h7]
    · exact h.elim

theorem resL_sound {P : Program} {T : Tab} (hT : T.Ok P) {st : St} {m : Me} {tm : Array Value} (hs : Sim st m tm) : ∀ {rs : List ResultVar}, rs.all (resOk tm.size) = true → ∀ {K : List LV → Prop}, resL T st rs K →
    ∃ xs vs, K xs ∧ RepL m st.next xs vs ∧ vs.length = rs.length ∧ (rs.mapM (readRes tm) : Sem (List Value)).run P m.w = .ok vs m.w
  | [], _, K, h => ⟨[], [], h, rfl, rfl, rfl⟩
  | r :: rs, hok, K, h => by
    simp only [List.all_cons, Bool.and_eq_true] at hok
    obtain ⟨x, v, h1, h2, h3⟩ := resA_sound (P := P) hT hs hok.1 h
    obtain ⟨xs, vs, h4, h5, h6, h7⟩ := resL_sound hT hs hok.2 h1
    refine ⟨x :: xs, v :: vs, h4, ⟨v, vs, rfl, h2, h5⟩, by simp [h6], ?_⟩
    simp only [List.mapM_cons, Sem.run_bind, h3, Result.andThen_ok, h7, Sem.run_pure]

theorem memA_mono {st : St} {x : LV} {f f' : List LV → Nat → Prop} (hf : ∀ cs off, f cs off → f' cs off) (h : memA st x f) : memA st x f' := by
  unfold memA at *
  split
  · rename_i o off
    simp only [] at h
    split
    · rename_i ty cs ho; simp only [ho] at h; exact hf _ _ h
    · rename_i h1
      split at h
      · exact absurd ‹_› (h1 _ _)
      · exact h.elim
  · exact hf _ _ h
  · rename_i o sz i off
    simp only [] at h
    split
    · rename_i ty sz' n g ho
      simp only [ho] at h
      split
      · rename_i hb; simp only [hb] at h; exact hf _ _ h
      · rename_i hb; simp only [hb] at h
    · rename_i h1
      split at h
      · exact absurd ‹_› (h1 _ _ _ _)
      · exact h.elim
  · rename_i h1 h2 h3
    split at h
    · exact absurd rfl (h1 _ _)
    · exact absurd rfl (h2 _ _)
    · exact absurd rfl (h3 _ _ _ _)
    · exact h

theorem resK_sound {P : Program} {T : Tab} (hT : T.Ok P) {st : St} {m : Me} {tm : Array Value} (hs : Sim st m tm) {fn : Func} (hok : fn.results.toList.all (resOk tm.size) = true) {K : LV → Prop} (h : resK T st fn.results.toList K) :
    ∃ x v, K x ∧ Rep m st.next x v ∧ (results fn tm).run P m.w = .ok v m.w := by
  have go : ∀ {K : List LV → Prop}, resL T st fn.results.toList K → ∃ xs vs, K xs ∧ RepL m st.next xs vs ∧ vs.length = fn.results.size ∧ (results fn tm).run P m.w = .ok (if h : vs.toArray.size = 1 then vs.toArray[0] else .tuple vs.toArray) m.w := by
    intro K h
    obtain ⟨xs, vs, h1, h2, h3, h4⟩ := resL_sound (P := P) hT hs hok h
    refine ⟨xs, vs, h1, h2, by simpa using h3, ?_⟩
    rw [results_eq, Array.mapM_eq_mapM_toList]
    simp only [Sem.run_bind, Sem.run_map, h4, Result.andThen_ok, Sem.run_pure]
  unfold resK at h
  split at h
  · rename_i r hr
    have h' : resL T st fn.results.toList (fun xs => ∃ x, xs = [x] ∧ K x) := by
      rw [hr]
      cases r with
      | tmp t => exact ⟨_, rfl, h⟩
      | cell a t =>
        simp only [resL, resA] at h ⊢
        have conv : ∀ (ti : TI) (cs : List LV) (off : Nat), loadK ti cs off K → loadK ti cs off (fun x => ∃ x_1, [x] = [x_1] ∧ K x_1) := by
          intro ti cs off hl
          unfold loadK at *
          split
          · rename_i ha
            simp only [ha] at hl
            split
            · rename_i hb; simp only [hb] at hl; exact ⟨_, rfl, hl⟩
            · rename_i hb; simp only [hb] at hl
          · rename_i ha
            simp only [ha] at hl
            split
            · rename_i x hb; simp only [hb] at hl; exact ⟨_, rfl, hl⟩
            · rename_i hb; simp only [hb] at hl
        split
        · rename_i ti hti
          simp only [hti] at h
          exact memA_mono (conv ti) h
        · rename_i hti
          simp only [hti] at h
    obtain ⟨xs, vs, ⟨x, rfl, hx⟩, h2, h3, h4⟩ := go h'
    obtain ⟨v, r', rfl, h5, h6⟩ := h2
    have h6 : r' = [] := h6
    subst h6
    exact ⟨x, v, hx, h5, by rw [h4]; rfl⟩
  · rename_i rs hrs
    obtain ⟨xs, vs, h1, h2, h3, h4⟩ := go h
    refine ⟨_, .tuple vs.toArray, h1, ⟨vs, rfl, h2⟩, ?_⟩
    rw [h4, dif_neg]
    intro hsz
    have : fn.results.size = 1 := by rw [← h3]; simpa using hsz
    obtain ⟨r, hr⟩ : ∃ r, fn.results.toList = [r] := by
      have h7 : fn.results.toList.length = 1 := by simpa using this
      match fn.results.toList, h7 with
      | [r], _ => exact ⟨r, rfl⟩
    exact hrs r hr

end Go.Proofs.Aw
