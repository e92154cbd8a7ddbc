/- A PART OF THE PROOF: an abstract run of the loaded code over value trees, and the functions walked by it. No condition of its own. -/
import Derived.Test.YtanmknmlphkeaaaDoorA15
namespace Go.Proofs.Aw
open Go Go.RowKit

/-! ### the abstract run -/
def runOps (P : Program) (T : Tab) (sz : Nat) (ops : List Oper) (K : AX → St → Prop) : List Oper → St → Prop
  | [], st => K .normal st
  | o :: r, st => guardA ops sz o (opA P T o (fun x st' => frc x fun x => frcS (st'.put o.dst x) fun st' => runOps P T sz ops K r st') (fun x st' => K (.pan x) st')) (fun st' => frcS (st'.put o.dst (.tup [])) fun st' => runOps P T sz ops K r st') st

/-- a loop: some family of states serves -/
def LoopA (body : (AX → St → Prop) → St → Prop) (K : AX → St → Prop) (st : St) : Prop :=
  ∃ (ι : Type) (I : ι → St) (φ : ι → Prop) (μ : ι → Nat) (i0 : ι), φ i0 ∧ St.to st (I i0) ∧ ∀ i, φ i → body (seqK K fun st' => ∃ j, φ j ∧ μ j < μ i ∧ St.to st' (I j)) (I i)

/-- a region whose order is open; told elsewhere -/
def DrawA (P : Program) (T : Tab) (sz : Nat) (ops : Array Oper) (K : AX → St → Prop) (st : St) : Prop :=
  ∀ org ds id, ops.toList.all (opOk sz) = true → AW P org ds sz (.region id ops true) K st

def runC (P : Program) (T : Tab) (sz : Nat) : Code → (AX → St → Prop) → St → Prop
  | .skip, K, st => K .normal st
  | .region _ ops draw, K, st => match draw with
    | false => runOps P T sz ops.toList K ops.toList st
    | true => DrawA P T sz ops K st
  | .seq a b, K, st => runC P T sz a (seqK K (runC P T sz b K)) st
  | .cond c a b, K, st => condA (evO st c) (runC P T sz a K st) (runC P T sz b K st)
  | .block id c, K, st => runC P T sz c (blockK id K) st
  | .loop c, K, st => LoopA (runC P T sz c) K st
  | .exit id, K, st => K (.exit id) st
  | .ret, K, st => K .ret st
  | _, _, _ => False

def codeOk (sz : Nat) : Code → Bool
  | .region _ ops _ => ops.toList.all (opOk sz)
  | .seq a b => codeOk sz a && codeOk sz b
  | .cond c a b => okO sz c && (codeOk sz a && codeOk sz b)
  | .block _ c => codeOk sz c
  | .loop c => codeOk sz c
  | _ => true

theorem guardA_mono {ops : List Oper} {sz : Nat} {o : Oper} {y y' n n' : St → Prop} {st : St} (hy : ∀ st, y st → y' st) (hn : ∀ st, n st → n' st) (h : guardA ops sz o y n st) : guardA ops sz o y' n' st := by
  unfold guardA at *
  split
  · simp_all
  · rename_i j want hg
    simp only [hg] at h
    split
    · simp_all
    · rename_i oj hj
      simp only [hj] at h
      split
      · simp_all
      · rename_i d hd
        simp only [hd] at h
        split
        · simp_all
        · rename_i hs
          simp only [hs] at h
          split
          · rename_i hl
            simp only [hl] at h
            cases want
            · exact hn _ h
            · exact hy _ h
          · rename_i hl
            simp only [hl] at h
            cases want
            · exact hy _ h
            · exact hn _ h
          · rename_i b hl
            simp only [hl] at h
            cases want
            · exact ⟨fun e => hn _ (h.1 e), fun e => hy _ (h.2 e)⟩
            · exact ⟨fun e => hy _ (h.1 e), fun e => hn _ (h.2 e)⟩
          · rename_i hl
            simp only [hl] at h
            exact hn _ h
          · rename_i h1 h2 h3 h4
            split at h
            · exact absurd ‹_› (h1)
            · exact absurd ‹_› (h2)
            · exact absurd ‹_› (h3 _)
            · exact absurd ‹_› h4
            · exact h.elim

theorem runOps_sound {P : Program} {T : Tab} (hT : T.Ok P) {org : Me} {ds : List Deferred} {sz : Nat} {ops : List Oper} {K : AX → St → Prop} : ∀ (l : List Oper) (st : St), l.all (opOk sz) = true → runOps P T sz ops K l st → AL P org ds sz ops.toArray l K st
  | [], st, _, h => AL.nil h
  | o :: r, st, hok, h => by
    simp only [List.all_cons, Bool.and_eq_true] at hok
    refine AL.guard hok.1 (guardA_mono (fun st' h' => ?_) (fun st' h' => ?_) h)
    · intro org' m tm h1 h2 next Q hn hp
      exact opA_sound hT h' org' m tm h1 h2 next Q (fun y x st'' m' hk => hn y x st'' m' (by rw [frc_eq, frcS_eq] at hk; exact runOps_sound hT r _ hok.2 hk)) hp
    · exact runOps_sound hT r _ hok.2 h'

theorem runC_sound {P : Program} {T : Tab} (hT : T.Ok P) {org : Me} {ds : List Deferred} {sz : Nat} : ∀ (c : Code) (K : AX → St → Prop) (st : St), codeOk sz c = true → runC P T sz c K st → AW P org ds sz c K st
  | .skip, K, st, _, h => AW.skip h
  | .region id ops draw, K, st, hok, h => by
    cases draw with
    | false =>
      refine AW.region ?_
      have := runOps_sound (P := P) (org := org) (ds := ds) (ops := ops.toList) hT ops.toList st hok h
      simpa using this
    | true => exact h org ds id hok
  | .seq a b, K, st, hok, h => by
    simp only [codeOk, Bool.and_eq_true] at hok
    refine AW.seq (AW.mono (runC_sound hT a _ st hok.1 h) fun x st' hx => ?_)
    cases x with
    | normal => exact runC_sound hT b K st' hok.2 hx
    | exit id => exact hx
    | ret => exact hx
    | pan x => exact hx
  | .cond c a b, K, st, hok, h => by
    simp only [codeOk, Bool.and_eq_true] at hok
    refine AW.cond hok.1 ?_
    have h : condA (evO st c) (runC P T sz a K st) (runC P T sz b K st) := h
    unfold condA at *
    split
    · rename_i e; simp only [e] at h; exact runC_sound hT a K st hok.2.1 h
    · rename_i e; simp only [e] at h; exact runC_sound hT b K st hok.2.2 h
    · rename_i q e; simp only [e] at h; exact ⟨fun hq => runC_sound hT a K st hok.2.1 (h.1 hq), fun hq => runC_sound hT b K st hok.2.2 (h.2 hq)⟩
    · rename_i h1 h2 h3
      split at h
      · exact absurd ‹_› h1
      · exact absurd ‹_› h2
      · exact absurd ‹_› (h3 _)
      · exact h.elim
  | .block id c, K, st, hok, h => AW.block (runC_sound hT c _ st hok h)
  | .loop c, K, st, hok, h => by
    obtain ⟨ι, I, φ, μ, i0, h0, hl, hr⟩ := h
    exact AW.loop I φ μ i0 h0 hl fun i hi => runC_sound hT c _ _ hok (hr i hi)
  | .exit id, K, st, _, h => AW.exit h
  | .ret, K, st, _, h => AW.ret h
  | .rangeFunc .., _, _, _, h => h.elim
  | .scope .., _, _, _, h => h.elim
  | .label .., _, _, _, h => h.elim
  | .goto .., _, _, _, h => h.elim
  | .refuse .., _, _, _, h => h.elim

/-! ### a function's results, and its call -/
def resA (T : Tab) (st : St) : ResultVar → (LV → Prop) → Prop
  | .tmp t, K => K (look t st.env)
  | .cell a t, K => match T.find t with
    | some ti => memA st (look a st.env) fun cs off => loadK ti cs off K
    | none => False
def resL (T : Tab) (st : St) : List ResultVar → (List LV → Prop) → Prop
  | [], K => K []
  | r :: rs, K => resA T st r fun x => resL T st rs fun xs => K (x :: xs)
def resK (T : Tab) (st : St) (rs : List ResultVar) (K : LV → Prop) : Prop := match rs with
  | [r] => resA T st r K
  | rs => resL T st rs fun xs => K (.tup xs)
def resOk (sz : Nat) : ResultVar → Bool
  | .tmp t => Nat.blt t sz
  | .cell a _ => Nat.blt a sz

def argEnv : Nat → List LV → List (Nat × LV)
  | _, [] => []
  | i, x :: xs => (i, x) :: argEnv (i + 1) xs

/-- the state in which a function is entered -/
def St.enter (st : St) (args : List LV) : St := match st with
  | ⟨_, o, n, _⟩ => ⟨argEnv 0 args, o, n, n⟩
/-- the state behind a call -/
def St.back (st st' : St) : St := match st, st' with
  | ⟨e, _, _, l⟩, ⟨_, o, n, _⟩ => ⟨e, o, n, l⟩

theorem look_args : ∀ (xs : List LV) (i k : Nat), look k (argEnv i xs) = if i ≤ k then (xs[k - i]?).getD .any else .any
  | [], i, k => by simp [argEnv, look]
  | x :: xs, i, k => by
    simp only [argEnv, look]
    by_cases e : k = i
    · subst e; simp
    · rw [beqF e]
      simp only [look_args xs (i + 1) k]
      by_cases h : i ≤ k
      · rw [if_pos h, if_pos (by omega)]
        have : k - i = (k - (i + 1)) + 1 := by omega
        rw [this]; simp
      · rw [if_neg h, if_neg (by omega)]

end Go.Proofs.Aw
