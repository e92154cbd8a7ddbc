/- A PART OF THE PROOF: an abstract run of the loaded code over value trees, and the functions walked by it. No condition of its own. -/
import Derived.Test.YtanmknmlphkeaaaGreatDoorCards
import Derived.Test.YtanmknmlphkeaaaGreatDoorTie
import Derived.WalkKit
import Derived.ProofKit
import Derived.OpenShut
import Derived.Deep.DeepHandedRow
import Derived.Lib.LaidTab
import Derived.Carry
import Derived.Test.YtanmknmlphkeaaaGreatDoorGZG1
import Derived.Test.YtanmknmlphkeaaaGreatDoorZD14
namespace Go.Proofs.YtanmknmlphkeaaaGreatDoor.kit
open Go.ChangeShapes Go.WideShapes Go.ChangeAt Go.RowKit Go.Proofs.Aw
set_option maxRecDepth 100000
set_option maxHeartbeats 4000000

theorem own : ownKnob Tryz.prog.godebug = none := by kernel_rfl
theorem laidOut : laidOutB Tryz.prog = true := by kernel_rfl

theorem agg_of {W : World} {base : Nat} {t : TypeId} {fs : Array Field} {v : Value} (ht : Tryz.prog.underlying t = some (.struct fs)) (h : Value.okWide Tryz.prog W .any base t v) : ∃ cs, v = .agg cs := by
  unfold Value.okWide at h
  rw [ht] at h
  obtain ⟨cs, h, _⟩ := h
  exact ⟨cs, h⟩

/-- the row's word on a call that left all old memory alone -/
theorem post_old {H : Type} {enc : TypeId × Value → H} {P : Program} {f : Func} {s : ChangeSpec} {apart fresh handsOn again : Bool} {W W' : World} {args : Array Value} {v : Value} {ds gs : List (DataW H)} {before pa pv : List MemPlace}
    (hW : DataW.Whole enc P f.params.toList s.vars apart W args.toList ds gs before) (hb : Below W.heap.size W W')
    (hres : ∀ (b : Nat) (sp : Nat → Bool) (hd : Bool), DataW.TrodAll enc P W' b sp hd f.resultTypes.toList (v.resultList f.resultTypes.size) (s.fn H (ds ++ gs)).results [])
    (hargs : ∀ sp : Nat → Bool, (∀ p ∈ before, sp p.block = true) → DataW.TrodAll enc P W' 0 sp true f.params.toList args.toList (s.fn H (ds ++ gs)).args pa)
    (hvars : ∀ sp : Nat → Bool, (∀ p ∈ before, sp p.block = true) → DataW.TrodVars enc P W' sp s.vars (s.fn H (ds ++ gs)).vars pv)
    (hps : before = pa ++ pv)
    (hok : ∀ (j : Nat) (t : TypeId) (r : Value), f.resultTypes[j]? = some t → (v.resultList f.resultTypes.size)[j]? = some r → Value.okWide P W' .any 0 t r) :
    s.post enc P f apart fresh handsOn again W args v W' := by
  subst hps
  have hlt := hW.lt
  have hold : ∀ p ∈ pa ++ pv, (fun b => decide (b < W.heap.size)) p.block = true := fun p hp => decide_eq_true (hlt p hp)
  have all := fun p (_ : p ∈ pa ++ pv) => (rfl : (fun _ : Nat => true) p.block = true)
  obtain ⟨a1, a2, a3, a4, a5, hz, hn⟩ := id hW
  refine ⟨ds, gs, pa ++ pv, [], pa, pv, hW, hres _ _ _, hargs _ hold, hvars _ hold, hb.frame _, fun _ => ⟨hok, _, _, ([] ++ pa) ++ pv, ⟨[] ++ pa, pv, trodAll_append (hargs _ all) (hres _ _ _), hvars _ all, rfl, ?_, hn⟩, fun p hp _ => hp⟩⟩
  intro b off hp
  have := hb.frozen (p := ⟨b, off, none⟩) (hlt _ hp)
  rw [this]
  exact hz b off hp

/-! ### the witness -/
def rowD : DataW Unit → Array Value
  | .agg l => (l.map fun
    | .lit (.int k n) => Value.int k n
    | _ => undef).toArray
  | _ => #[]
noncomputable def setG (w : World) (name : String) (d : DataW Unit) : World := { w with heap := w.heap.modify ((Tryz.prog.globalNamed name).getD 0) fun
    | .cells _ t fz => .cells (rowD d) t fz
    | o => o }
def wShot : Value := .agg #[.int .u64 0, .slice none 0 0, .slice none 0 0, .string ⟨#[]⟩]
def wMac : Value := .agg #[.int .u64 0, .int .i64 0, .int .i64 0, .int .i64 0, .slice none 0 0, .slice none 0 0, .int .i64 0, .string ⟨#[]⟩, .slice none 0 0, .int .i64 0, .string ⟨#[]⟩, .bool false, .int .u64 0, .slice none 0 0, .slice none 0 0, .int .i64 0, .slice none 0 0]
/-- a world for the witness: the settled one, the listed variables holding what their initialisers lay -/
noncomputable def laidWorld (os : Os) : World :=
  setG (setG (setG (World.holding Tryz.prog os ⟨#[], #[], []⟩) "math/bits.deBruijn32tab" Rows.laid_math_bits_deBruijn32tab) "math/bits.deBruijn64tab" Rows.laid_math_bits_deBruijn64tab) "internal/strconv.uint64pow10" Rows.laid_internal_strconv_uint64pow10
def wdMac {H : Type} : DataW H := .agg [.lit (.int .u64 0), .lit (.int .i64 0), .lit (.int .i64 0), .lit (.int .i64 0), .nil, .nil, .lit (.int .i64 0), .lit (.string []), .nil, .lit (.int .i64 0), .lit (.string []), .lit (.bool false), .lit (.int .u64 0), .agg [.nil, .nil, .lit (.int .i64 0)], .nil]
theorem int_le {k : IntKind} {n : Int} (h : Lit.wf (.int k n)) : n ≤ k.max := by
  simp only [Lit.wf, Bool.and_eq_true, decide_eq_true_eq] at h
  omega
theorem u8_le {n : Int} (h : Lit.wf (.int .u8 n)) : 0 ≤ n ∧ n ≤ 255 := by
  simp only [Lit.wf, Bool.and_eq_true, decide_eq_true_eq] at h
  have e : IntKind.u8.max = 255 := by decide
  have e' : IntKind.u8.min = 0 := by decide
  omega
end Go.Proofs.YtanmknmlphkeaaaGreatDoor.kit
