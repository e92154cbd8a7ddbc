/- PROVED: the law FreezeOnce is true for every input, and its arguments read behind the call as before; no condition beyond the given row. -/
import Derived.Test.YtanmknmlphkeaaaDoorCards
import Derived.Test.YtanmknmlphkeaaaDoorTie
import Derived.WalkKit
import Derived.ProofKit
import Derived.OpenShut
import Derived.Deep.DeepHandedRow
import Derived.Lib.LaidTab
import Derived.Carry
import Derived.Test.YtanmknmlphkeaaaDoorD13
import Derived.Test.YtanmknmlphkeaaaDoorD14
namespace Go.Proofs.YtanmknmlphkeaaaDoor.freezeOnce
open Go.ChangeShapes Go.WideShapes Go.ChangeAt Go.RowKit Go.Proofs.Aw
set_option maxRecDepth 100000
set_option maxHeartbeats 4000000

theorem own : ownKnob Tryd.prog.godebug = none := by kernel_rfl
theorem laidOut : laidOutB Tryd.prog = true := by kernel_rfl

theorem agg_of {W : World} {base : Nat} {t : TypeId} {fs : Array Field} {v : Value} (ht : Tryd.prog.underlying t = some (.struct fs)) (h : Value.okWide Tryd.prog W .any base t v) : ∃ cs, v = .agg cs := by
  unfold Value.okWide at h
  rw [ht] at h
  obtain ⟨cs, h, _⟩ := h
  exact ⟨cs, h⟩

/-- the row's word on a call that left all old memory alone -/
theorem post_old {H : Type} {enc : TypeId × Value → H} {P : Program} {f : Func} {s : ChangeSpec} {apart fresh handsOn again : Bool} {W W' : World} {args : Array Value} {v : Value} {ds gs : List (DataW H)} {before pa pv : List MemPlace}
    (hW : DataW.Whole enc P f.params.toList s.vars apart W args.toList ds gs before) (hb : Below W.heap.size W W')
    (hres : ∀ (b : Nat) (sp : Nat → Bool) (hd : Bool), DataW.TrodAll enc P W' b sp hd f.resultTypes.toList (v.resultList f.resultTypes.size) (s.fn H (ds ++ gs)).results [])
    (hargs : ∀ sp : Nat → Bool, (∀ p ∈ before, sp p.block = true) → DataW.TrodAll enc P W' 0 sp true f.params.toList args.toList (s.fn H (ds ++ gs)).args pa)
    (hvars : ∀ sp : Nat → Bool, (∀ p ∈ before, sp p.block = true) → DataW.TrodVars enc P W' sp s.vars (s.fn H (ds ++ gs)).vars pv)
    (hps : before = pa ++ pv)
    (hok : ∀ (j : Nat) (t : TypeId) (r : Value), f.resultTypes[j]? = some t → (v.resultList f.resultTypes.size)[j]? = some r → Value.okWide P W' .any 0 t r) :
    s.post enc P f apart fresh handsOn again W args v W' := by
  subst hps
  have hlt := hW.lt
  have hold : ∀ p ∈ pa ++ pv, (fun b => decide (b < W.heap.size)) p.block = true := fun p hp => decide_eq_true (hlt p hp)
  have all := fun p (_ : p ∈ pa ++ pv) => (rfl : (fun _ : Nat => true) p.block = true)
  obtain ⟨a1, a2, a3, a4, a5, hz, hn⟩ := id hW
  refine ⟨ds, gs, pa ++ pv, [], pa, pv, hW, hres _ _ _, hargs _ hold, hvars _ hold, hb.frame _, fun _ => ⟨hok, _, _, ([] ++ pa) ++ pv, ⟨[] ++ pa, pv, trodAll_append (hargs _ all) (hres _ _ _), hvars _ all, rfl, ?_, hn⟩, fun p hp _ => hp⟩⟩
  intro b off hp
  have := hb.frozen (p := ⟨b, off, none⟩) (hlt _ hp)
  rw [this]
  exact hz b off hp

theorem contract (H : Type) (enc : TypeId × Value → H) (W : World) (base : Nat) (args : Array Value) (ds gs : List (DataW H)) (before : List MemPlace)
    (hval : ∀ (j : Nat) t v, Tryd.f4.params[j]? = some t → args[j]? = some v → Value.okWide Tryd.prog W .any base t v)
    (hW : DataW.Whole enc Tryd.prog Tryd.f4.params.toList Rows.freezeOnceSpec.vars false W args.toList ds gs before) :
    Calls Tryd.prog 4 args W fun e W' => ∃ v, e = .returned v ∧ Rows.freezeOnceSpec.post enc Tryd.prog Tryd.f4 false true false false W args v W' := by
  have hW' := hW
  have hlt := hW.lt
  obtain ⟨p, q, hA0, hV, rfl, hfz, hnd⟩ := hW
  have hA : DataW.TrodAll enc Tryd.prog W 0 (fun _ => true) true Tryd.f4.params.toList args.toList ds p := hA0
  rw [Tryd.params4] at hA hval
  obtain ⟨v0, vs0, d0, ds0, p0, q0, hargs, rfl, rfl, h0, r0⟩ := trodAll_cons hA
  obtain ⟨v1, vs1, d1, ds1, p1, q1, rfl, rfl, rfl, h1, r1⟩ := trodAll_cons r0
  obtain ⟨v2, vs2, d2, ds2, p2, q2, rfl, rfl, rfl, h2, r2⟩ := trodAll_cons r1
  obtain ⟨v3, vs3, d3, ds3, p3, q3, rfl, rfl, rfl, h3, r3⟩ := trodAll_cons r2
  obtain ⟨rfl, rfl, rfl⟩ := trodAll_nil r3
  obtain rfl : args = #[v0, v1, v2, v3] := by cases args; simp_all
  obtain ⟨rfl, rfl⟩ := trodVars_none hV
  obtain ⟨c0, rfl⟩ := agg_of Tryd.underlying35 (hval 0 35 v0 rfl rfl)
  obtain ⟨c1, rfl⟩ := agg_of Tryd.underlying42 (hval 1 42 v1 rfl rfl)
  obtain ⟨c2, rfl⟩ := agg_of Tryd.underlying42 (hval 2 42 v2 rfl rfl)
  have h3k := h3
  obtain ⟨z, rfl, rfl, rfl, hz⟩ := open_int Tryd.underlying3 (hval 3 3 v3 rfl rfl) h3
  have h0k := h0; have h1k := h1; have h2k := h2
  obtain ⟨u0, t0⟩ := h0
  obtain ⟨u1, t1⟩ := h1
  obtain ⟨u2, t2⟩ := h2
  obtain ⟨c, n0, n1, k0, k1, r, s0, o0⟩ := open_shot t0
  obtain ⟨m1, s1, o1⟩ := open_mac t1
  obtain ⟨m2, s2, o2⟩ := open_mac t2
  have hz2 : z ≤ 9223372036854775807 := by
    simp only [Lit.wf, Bool.and_eq_true, decide_eq_true_eq] at hz
    have e : IntKind.i64.max = 9223372036854775807 := by decide
    omega
  have walk := (once_ct m1 m2 c z n0 n1 k0 k1 r hz2).2 W (fun _ => False) (fun _ h => h.elim) [.agg c0, .agg c1, .agg c2, .int .i64 z]
    ⟨_, _, rfl, ⟨c0.toList, rfl, s0, o0⟩, _, _, rfl, ⟨c1.toList, rfl, s1, o1⟩, _, _, rfl, ⟨c2.toList, rfl, s2, o2⟩, _, _, rfl, rfl, rfl⟩
  refine walk.mono fun e W' ⟨y, lt', he, hk, hr⟩ => ?_
  have hr : y = .bool true := hr
  subst hr; subst he
  have hb : Below W.heap.size W W' := ⟨hk.sys.os, hk.sys.tape, hk.sys.output, hk.size, hk.keep⟩
  simp only [List.append_nil] at hW' hlt
  have stays : ∀ {t : TypeId} {v : Value} {d : DataW H} {ps : List MemPlace}, Tryd.prog.readableRec t = true → t < Tryd.prog.types.size → DataW.Trod enc Tryd.prog W 0 (fun _ => true) true t v d ps → (∀ x ∈ ps, x ∈ p0 ++ (p1 ++ p2)) → ∀ sp : Nat → Bool, (∀ p ∈ p0 ++ (p1 ++ p2), sp p.block = true) → DataW.Trod enc Tryd.prog W' 0 sp true t v d ps :=
    fun hr hrow h hin sp hsp => Go.WideElems.Trod_stays laidOut hr hrow h (fun x hx => hb.same (hlt x (hin x hx))) fun x hx => hsp x (hin x hx)
  have hargs : ∀ sp : Nat → Bool, (∀ p ∈ p0 ++ (p1 ++ p2), sp p.block = true) → DataW.TrodAll enc Tryd.prog W' 0 sp true Tryd.f4.params.toList [.agg c0, .agg c1, .agg c2, .int .i64 z] [d0, d1, d2, .lit (.int .i64 z)] (p0 ++ (p1 ++ (p2 ++ []))) := fun sp hsp =>
    trodAll_mk4 (stays (by kernel_rfl) (of_decide_eq_true (by kernel_rfl)) h0k (fun x hx => by simp [hx]) sp hsp) (stays (by kernel_rfl) (of_decide_eq_true (by kernel_rfl)) h1k (fun x hx => by simp [hx]) sp hsp)
      (stays (by kernel_rfl) (of_decide_eq_true (by kernel_rfl)) h2k (fun x hx => by simp [hx]) sp hsp) (stays (by kernel_rfl) (of_decide_eq_true (by kernel_rfl)) h3k (fun x hx => by cases hx) sp hsp)
  simp only [List.append_nil] at hargs
  exact ⟨_, rfl, post_old (pa := p0 ++ (p1 ++ p2)) (pv := []) hW' hb (fun _ _ _ => trodAll_cons_mk (shut_bool Tryd.underlying4 _) trodAll_mk0) hargs (fun _ _ => rfl) (by simp) (ok_one (by kernel_rfl) rfl (okWide_bool_mk Tryd.underlying4 _))⟩

/-! ### the witness -/
def rowD : DataW Unit → Array Value
  | .agg l => (l.map fun
    | .lit (.int k n) => Value.int k n
    | _ => undef).toArray
  | _ => #[]
noncomputable def setG (w : World) (name : String) (d : DataW Unit) : World := { w with heap := w.heap.modify ((Tryd.prog.globalNamed name).getD 0) fun
    | .cells _ t fz => .cells (rowD d) t fz
    | o => o }
def wShot : Value := .agg #[.int .u64 0, .slice none 0 0, .slice none 0 0, .string ⟨#[]⟩]
def wMac : Value := .agg #[.int .u64 0, .int .i64 0, .int .i64 0, .int .i64 0, .slice none 0 0, .slice none 0 0, .int .i64 0, .string ⟨#[]⟩, .slice none 0 0, .int .i64 0, .string ⟨#[]⟩, .bool false, .int .u64 0, .slice none 0 0, .slice none 0 0, .int .i64 0, .slice none 0 0]
def wArgs : Array Value := #[wShot, wMac, wMac, .int .i64 0]
/-- a world for the witness: the settled one, the listed variables holding what their initialisers lay -/
noncomputable def laidWorld (os : Os) : World :=
  setG (setG (setG (World.holding Tryd.prog os ⟨#[], #[], []⟩) "math/bits.deBruijn32tab" Rows.laid_math_bits_deBruijn32tab) "math/bits.deBruijn64tab" Rows.laid_math_bits_deBruijn64tab) "internal/strconv.uint64pow10" Rows.laid_internal_strconv_uint64pow10
theorem laid_met (os : Os) : laidMet Tryd.prog Rows.freezeOnceRow.laid ((laidWorld os).forCall (fun _ _ => 0) ⟨#[], wArgs, []⟩).memory :=
  laidMet_of_run' 8 (by kernel_rfl) (by kernel_rfl)
def wdMac {H : Type} : DataW H := .agg [.lit (.int .u64 0), .lit (.int .i64 0), .lit (.int .i64 0), .lit (.int .i64 0), .nil, .nil, .lit (.int .i64 0), .lit (.string []), .nil, .lit (.int .i64 0), .lit (.string []), .lit (.bool false), .lit (.int .u64 0), .agg [.nil, .nil, .lit (.int .i64 0)], .nil]
theorem reads (os : Os) {H : Type} (enc : TypeId × Value → H) : ∃ places, DataW.whole enc Tryd.prog ((laidWorld os).forCall (fun _ _ => 0) ⟨#[], wArgs, []⟩).memory Tryd.f4.params.toList Rows.freezeOnceSpec.vars false wArgs.toList 8 = some ([.agg [.lit (.int .u64 0), .nil, .nil, .lit (.string [])], wdMac, wdMac, .lit (.int .i64 0)], [], places) :=
  ⟨[], by kernel_rfl⟩

theorem lifted (os : Os) (started : os.Started) (H : Type) (enc : TypeId × Value → H) (F : Stop.Interp) :
    ReturnsInHanded {} Tryd.checked os 4 .any ((OpenSpec.ofChange Rows.freezeOnceSpec).preRow enc Tryd.prog Tryd.f4 Rows.freezeOnceRow.domain false Rows.freezeOnceRow.laid) (((OpenSpec.ofChange Rows.freezeOnceSpec).at F).post enc Tryd.prog Tryd.f4 false true false false) := by
  obtain ⟨places, hx⟩ := reads os enc
  refine returnsInHanded_of_row (C := Tryd.checked) (s := OpenSpec.ofChange Rows.freezeOnceSpec) own started (by kernel_rfl) Tryd.func4
    (witness_row_at (enc := enc) (C := Tryd.checked) false (laidWorld os) wArgs rfl (by kernel_rfl) (by kernel_rfl) (by kernel_rfl)
      (OpenSpec.preRow_of_cond 8 hx (by kernel_rfl) (fun k hk => by cases hk) (by kernel_rfl) (laid_met os))) ?_
  intro W base args ds gs before hval hW _ _ _ hL _ _
  exact contract H enc W base args ds gs before hval hW

theorem said : Rows.FreezeOnceSaid :=
  OpenClaim.holds_of_cond 4 Tryd.f4 rfl rfl rfl rfl rfl rfl rfl ⟨rfl, rfl, rfl, rfl, rfl⟩ rfl rfl rfl rfl rfl (by kernel_rfl) Tryd.func4 (by kernel_rfl)
    (of_decide_eq_true (by kernel_rfl)) (by unfold Func.isWrapper; first | (rw [if_pos (by decide +kernel)]; kernel_rfl) | (rw [if_neg (by decide +kernel)]; exact ⟨rfl, rfl⟩))
    (fun os started H enc _ F => by rw [OpenClaim.pre_eq_preRow]; exact lifted os started H enc F)

theorem plain (f : FuncId) (fn : Func) (hf : Tryd.pinned.checked.prog.funcNamed "hibernacle/hibernaclelaw34.FreezeOnce" = some f) (hfn : Tryd.pinned.checked.prog.funcs[f]? = some fn) :
    false = Tryd.pinned.checked.prog.looks [] ∧ ∀ (j : Nat) t, fn.params[j]? = some t → Tryd.pinned.checked.prog.wantsStandIn t = false := by
  obtain rfl : f = 4 := Option.some.inj ((show Tryd.prog.funcNamed "hibernacle/hibernaclelaw34.FreezeOnce" = some 4 by kernel_rfl).symm.trans hf) |>.symm
  obtain rfl : fn = Tryd.f4 := (Option.some.inj (Tryd.func4.symm.trans hfn)).symm
  refine ⟨by kernel_rfl, fun j t ht => ?_⟩
  rw [Tryd.params4] at ht
  have ht : t = 35 ∨ t = 42 ∨ t = 3 := by have := Array.mem_of_getElem? ht; simp at this; omega
  rcases ht with rfl | rfl | rfl
  · exact (show Tryd.prog.wantsStandIn 35 = false by kernel_rfl)
  · exact (show Tryd.prog.wantsStandIn 42 = false by kernel_rfl)
  · exact (show Tryd.prog.wantsStandIn 3 = false by kernel_rfl)

/-- ████ THE CARD ████ -/
theorem card : Rows.FreezeOnceCardSaid :=
  Claim7.holds_tied_plain_at .later [] _ _ _ _ said (fun _ h => by cases h) (by kernel_rfl) (fun _ h => by cases h) freezeOnce_row_tie rfl ⟨rfl, rfl⟩ (by kernel_rfl) rfl plain (by kernel_rfl)
#print axioms card
end Go.Proofs.YtanmknmlphkeaaaDoor.freezeOnce
