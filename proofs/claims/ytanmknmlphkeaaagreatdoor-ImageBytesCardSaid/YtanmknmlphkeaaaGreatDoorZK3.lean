/- A PART OF THE PROOF: an abstract run of the loaded code over value trees, and the functions walked by it. No condition of its own. -/
import Derived.Test.YtanmknmlphkeaaaGreatDoorZK2
namespace Go.Proofs.Aw
open Go Go.Proofs Go.RowKit
set_option maxHeartbeats 4000000
set_option maxRecDepth 100000
theorem stepF_load {P : Program} {T : Tab} {ops : List Oper} {sz : Nat} {o : Oper} {v : LV} {ms : List Nat} {base : List (Nat × LV)} {vals : List LV} {i : Nat} {s : Hp} {t : TypeId} {a : Operand} {ti : TI} {ob off : Nat} {ty : TypeId} {cs : List LV} {x : LV}
    (hg : o.guard = none) (ho : o.op = .load t a) (hti : T.find t = some ti) (hag : ti.k.agg = false) (hev : evO (stAt ops ms base vals i s) a = .lp ob off) (hob : lookO ob s.1 = some (.box ty cs)) (hx : nth cs off = some x) (hv : LV.le x v) : stepF P T ops sz o v s ms base vals i s := by
  rw [stepF_eq]
  have hob' : lookO ob (stAt ops ms base vals i s).objs = some (.box ty cs) := hob
  simp only [stepG, guardA, hg, stepR, opA, ho, hti, hev, memA, hob', loadK, hag, hx, frc_eq, hpIs_eq]
  exact ⟨hv, rfl⟩
theorem stepF_store {P : Program} {T : Tab} {ops : List Oper} {sz : Nat} {o : Oper} {ms : List Nat} {base : List (Nat × LV)} {vals : List LV} {i : Nat} {s : Hp} {t : TypeId} {a x : Operand} {ti : TI} {ob off : Nat} {ty : TypeId} {cs cs' xs : List LV} {y : LV}
    (hg : o.guard = none) (ho : o.op = .store t a x) (hti : T.find t = some ti) (hy : evO (stAt ops ms base vals i s) x = y) (hc : cellsA y = some xs) (hl : Nat.beq xs.length ti.size = true) (hev : evO (stAt ops ms base vals i s) a = .lp ob off) (hob : lookO ob s.1 = some (.box ty cs)) (hb : Nat.ble (off + xs.length) cs.length = true) (hw : writeL cs off xs = cs') : stepF P T ops sz o .any ((ob, .box ty cs') :: s.1, s.2) ms base vals i s := by
  rw [stepF_eq]
  have hob' : lookO ob (stAt ops ms base vals i s).objs = some (.box ty cs) := hob
  simp only [stepG, guardA, hg, stepR, opA, ho, hti, hy, hc, hl, hev, storeK, hob', hb, frcC_eq, frc_eq, hpIs_eq]
  exact ⟨LV.le.any _, by rw [hw]; rfl⟩

/-! ### sixteen numbers, eight numbers -/
abbrev u (x : Int) : LV := .v (.int .u32 x)
def L16 (V : Nat → Int) : List LV := [u (V 0), u (V 1), u (V 2), u (V 3), u (V 4), u (V 5), u (V 6), u (V 7), u (V 8), u (V 9), u (V 10), u (V 11), u (V 12), u (V 13), u (V 14), u (V 15)]
def L8 (V : Nat → Int) : List LV := [u (V 0), u (V 1), u (V 2), u (V 3), u (V 4), u (V 5), u (V 6), u (V 7)]
def updV (V : Nat → Int) (k : Nat) (x : Int) : Nat → Int := fun j => match Nat.beq j k with
  | true => x
  | false => V j
theorem lt16 {p : Nat → Prop} (h : p 0 ∧ p 1 ∧ p 2 ∧ p 3 ∧ p 4 ∧ p 5 ∧ p 6 ∧ p 7 ∧ p 8 ∧ p 9 ∧ p 10 ∧ p 11 ∧ p 12 ∧ p 13 ∧ p 14 ∧ p 15) : ∀ k, k < 16 → p k := by
  obtain ⟨h0, h1, h2, h3, h4, h5, h6, h7, h8, h9, h10, h11, h12, h13, h14, h15⟩ := h
  intro k hk
  rcases (by omega : k = 0 ∨ k = 1 ∨ k = 2 ∨ k = 3 ∨ k = 4 ∨ k = 5 ∨ k = 6 ∨ k = 7 ∨ k = 8 ∨ k = 9 ∨ k = 10 ∨ k = 11 ∨ k = 12 ∨ k = 13 ∨ k = 14 ∨ k = 15) with rfl | rfl | rfl | rfl | rfl | rfl | rfl | rfl | rfl | rfl | rfl | rfl | rfl | rfl | rfl | rfl <;> assumption
theorem nth16 (V : Nat → Int) : ∀ k, k < 16 → nth (L16 V) k = some (u (V k)) := lt16 ⟨rfl, rfl, rfl, rfl, rfl, rfl, rfl, rfl, rfl, rfl, rfl, rfl, rfl, rfl, rfl, rfl⟩
theorem set16 (V : Nat → Int) (x : Int) : ∀ k, k < 16 → writeL (L16 V) k [u x] = L16 (updV V k x) := lt16 ⟨rfl, rfl, rfl, rfl, rfl, rfl, rfl, rfl, rfl, rfl, rfl, rfl, rfl, rfl, rfl, rfl⟩
theorem lt8 {p : Nat → Prop} (h : p 0 ∧ p 1 ∧ p 2 ∧ p 3 ∧ p 4 ∧ p 5 ∧ p 6 ∧ p 7) : ∀ k, k < 8 → p k := by
  obtain ⟨h0, h1, h2, h3, h4, h5, h6, h7⟩ := h
  intro k hk
  rcases (by omega : k = 0 ∨ k = 1 ∨ k = 2 ∨ k = 3 ∨ k = 4 ∨ k = 5 ∨ k = 6 ∨ k = 7) with rfl | rfl | rfl | rfl | rfl | rfl | rfl | rfl <;> assumption
theorem nth8 (V : Nat → Int) : ∀ k, k < 8 → nth (L8 V) k = some (u (V k)) := lt8 ⟨rfl, rfl, rfl, rfl, rfl, rfl, rfl, rfl⟩
theorem set8 (V : Nat → Int) (x : Int) : ∀ k, k < 8 → writeL (L8 V) k [u x] = L8 (updV V k x) := lt8 ⟨rfl, rfl, rfl, rfl, rfl, rfl, rfl, rfl⟩

/-! ### the little functions -/
def shlF (x : Int) (k : Nat) : Int := IntKind.u32.wrap (x * 2 ^ (min k IntKind.u32.bits))
def wv (l : List UInt8) (i : Nat) : Int := IntKind.u32.wrap ((l.getD i 0).toNat : Int)
def wordF (l : List UInt8) : Int := bitsA .or .u32 (bitsA .or .u32 (bitsA .or .u32 (wv l 0) (shlF (wv l 1) 8)) (shlF (wv l 2) 16)) (shlF (wv l 3) 24)
theorem word_ct (l : List UInt8) (hl : 4 ≤ l.length) : Ct Tryz.prog 151 [.str l] (u (wordF l)) := by
  refine Ct.enter Tryz.tabOk ft151 ?_
  refine DrawA.run Tryz.tabOk Tryz.mixed [0, 1, 3, 0, 8, 24, 56, 127, 0, 256, 768, 1792, 4095, 0, 8192, 24576, 57344, 131071, 262143] [] rfl ?_
  refine ⟨_, ⟨LV.le.refl _, rfl⟩, ?_⟩
  refine ⟨_, ⟨⟨by omega, by omega⟩, LV.le.refl _, rfl⟩, ?_⟩
  refine ⟨_, ⟨LV.le.refl _, rfl⟩, ?_⟩
  refine ⟨_, ⟨LV.le.refl _, rfl⟩, ?_⟩
  refine ⟨_, ⟨⟨by omega, by omega⟩, LV.le.refl _, rfl⟩, ?_⟩
  refine ⟨_, ⟨LV.le.refl _, rfl⟩, ?_⟩
  refine ⟨_, ⟨by decide, LV.le.refl _, rfl⟩, ?_⟩
  refine ⟨_, ⟨LV.le.refl _, rfl⟩, ?_⟩
  refine ⟨_, ⟨LV.le.refl _, rfl⟩, ?_⟩
  refine ⟨_, ⟨⟨by omega, by omega⟩, LV.le.refl _, rfl⟩, ?_⟩
  refine ⟨_, ⟨LV.le.refl _, rfl⟩, ?_⟩
  refine ⟨_, ⟨by decide, LV.le.refl _, rfl⟩, ?_⟩
  refine ⟨_, ⟨LV.le.refl _, rfl⟩, ?_⟩
  refine ⟨_, ⟨LV.le.refl _, rfl⟩, ?_⟩
  refine ⟨_, ⟨⟨by omega, by omega⟩, LV.le.refl _, rfl⟩, ?_⟩
  refine ⟨_, ⟨LV.le.refl _, rfl⟩, ?_⟩
  refine ⟨_, ⟨by decide, LV.le.refl _, rfl⟩, ?_⟩
  refine ⟨_, ⟨LV.le.refl _, rfl⟩, ?_⟩
  refine ⟨_, ⟨LV.le.refl _, rfl⟩, ?_⟩
  refine ⟨True.intro, ?_⟩
  exact ⟨LV.le.refl _, rfl⟩
theorem u64_pos (n : Int) : 0 ≤ IntKind.u64.wrap n := by
  have : IntKind.u64.wrap n = n % 18446744073709551616 := by simp [IntKind.wrap, IntKind.bits, IntKind.signed]
  omega
def rotS (k : Int) : Int := bitsA .and .u64 (IntKind.u64.wrap k) 31
def rotF (x k : Int) : Int := bitsA .or .u32 (IntKind.u32.wrap (x * 2 ^ (min (rotS k).toNat IntKind.u32.bits))) (x.fdiv (2 ^ (min (IntKind.u64.wrap (32 - rotS k)).toNat IntKind.u32.bits)))
theorem rot_ct (x k : Int) : Ct Tryz.prog 181 [u x, .v (.int .i64 k)] (u (rotF x k)) := by
  refine Ct.enter Tryz.tabOk ft181 ?_
  refine ⟨u64_pos _, u64_pos _, ?_⟩
  exact ⟨LV.le.refl _, rfl⟩
def H0 : Nat → Int := fun i => match i with
  | 0 => 1779033703
  | 1 => 3144134277
  | 2 => 1013904242
  | 3 => 2773480762
  | 4 => 1359893119
  | 5 => 2600822924
  | 6 => 528734635
  | _ => 1541459225
theorem eight_ct : Ct Tryz.prog 71 [] (.agg (L8 H0)) := by
  refine Ct.enter Tryz.tabOk ft71 ?_
  exact ⟨LV.le.refl _, rfl⟩
theorem join_ct (s : List UInt8) : Ct Tryz.prog 73 [.sl 1 1 (tx fun _ => s), .str []] (.str s) := by
  refine Ct.enter Tryz.tabOk ft73 ?_
  refine ⟨fun h => absurd h (by decide), fun _ => ⟨fun _ => ?_, fun h => absurd h (by decide)⟩⟩
  refine ⟨⟨by decide, by decide⟩, ?_⟩
  exact ⟨LV.le.refl _, rfl⟩
end Go.Proofs.Aw
