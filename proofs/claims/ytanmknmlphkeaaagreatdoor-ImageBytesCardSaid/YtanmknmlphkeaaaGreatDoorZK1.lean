/- A PART OF THE PROOF: an abstract run of the loaded code over value trees, and the functions walked by it. No condition of its own. -/
import Derived.Test.YtanmknmlphkeaaaGreatDoorZL1
import Derived.Test.YtanmknmlphkeaaaGreatDoorZJC
import Derived.Lib.Bytealg
namespace Go.Proofs.Aw
open Go Go.Proofs Go.RowKit
set_option maxHeartbeats 4000000
set_option maxRecDepth 100000
theorem Ct.ofCalls {P : Program} {f : FuncId} {args : List LV} {vs : List Value} {v : Value} {x : LV} (hf : FnOk P f) (hargs : ∀ w vo lt us, RepL (Me.base w vo lt) 0 args us → us = vs) (hx : ∀ (m : Me), Rep m 0 x v) (h : ∀ w, Calls P f vs.toArray w fun e w' => e = .returned v ∧ Below w.heap.size w w') : Ct P f args x := by
  refine ⟨hf, fun w vo lt us hu => ?_⟩
  rw [hargs w vo lt us hu]
  refine (h w).mono fun e w' he => ?_
  obtain ⟨rfl, hb⟩ := he
  exact ⟨v, fun k hk => Nat.lt_of_lt_of_le (lt k hk) hb.size, rfl, ⟨⟨hb.os, hb.tape, hb.output⟩, hb.size, fun k hk => hb.block k hk⟩, hx _⟩
theorem repeatL_one (c : Nat) : Lib.repeatL [(0 : UInt8)] c = List.replicate c 0 := by
  induction c with
  | zero => rfl
  | succ c ih => simp [Lib.repeatL, ih, List.replicate_succ]
theorem repeat_ct (c : Nat) (hc : c ≤ 1000000) : Ct Tryz.prog 107 [.str [0], .v (.int .i64 (c : Int))] (.str (List.replicate c 0)) := by
  refine Ct.ofCalls (vs := [.string ⟨#[0]⟩, .int .i64 (c : Int)]) (v := strV (List.replicate c 0)) ft107.ok (fun w vo lt us hu => ?_) (fun m => rfl) fun w => ?_
  · obtain ⟨y, r, rfl, e1, y2, r2, rfl, e2, e3⟩ := hu
    have e1 : y = strV [0] := e1
    have e2 : y2 = .int .i64 (c : Int) := e2
    have e3 : r2 = [] := e3
    subst e1; subst e2; subst e3; rfl
  · have h := Any.strings_Repeat Tryz.lays105 Tryz.extra105 ⟨#[0]⟩ c w (by omega) (by show 1 * c ≤ _; omega)
    refine h.mono fun e w' he => ?_
    obtain ⟨rfl, hb⟩ := he
    exact ⟨by rw [show (⟨#[0]⟩ : ByteArray).data.toList = [0] from rfl, repeatL_one]; rfl, hb⟩
end Go.Proofs.Aw
namespace Go.Proofs
open Go Go.RowKit
set_option maxHeartbeats 4000000
set_option maxRecDepth 100000
theorem ixb_w (s : ByteArray) (c : Int) (w : World) : Calls Tryz.prog 198 #[.string s, .int .u8 c] w fun e w' => e = .returned (.int .i64 (Lib.indexByte s.data.toList c.toNat.toUInt8)) ∧ w' = w := by
  have mixed := Tryz.mixed
  go_enter Tryz.func198, Tryz.ntmps198
  go_wp2
  rw [run_callFunc_extern Tryz.func209 (by kernel_rfl) (by kernel_rfl) (by kernel_rfl) (e := Extern.BytealgIndexByte.indexByte) (by kernel_rfl)]
  rw [Lib.run_indexByteString]
  simp only [Result.andThen]
  rw [Oper.upon_value]
  go_wp2
  go_ret
  exact ⟨rfl, rfl⟩
end Go.Proofs
namespace Go.Proofs.Aw
open Go Go.Proofs Go.RowKit
set_option maxRecDepth 100000
theorem ixb_ct (l : List UInt8) (c : UInt8) : Ct Tryz.prog 198 [.str l, .v (.int .u8 (c.toNat : Int))] (.v (.int .i64 (Lib.indexByte l c))) := by
  refine Ct.ofCalls (vs := [.string ⟨l.toArray⟩, .int .u8 (c.toNat : Int)]) (v := .int .i64 (Lib.indexByte l c)) ft198.ok (fun w vo lt us hu => ?_) (fun m => rfl) fun w => ?_
  · obtain ⟨y, r, rfl, e1, y2, r2, rfl, e2, e3⟩ := hu
    have e1 : y = strV l := e1
    have e2 : y2 = .int .u8 (c.toNat : Int) := e2
    have e3 : r2 = [] := e3
    subst e1; subst e2; subst e3; rfl
  · refine (ixb_w ⟨l.toArray⟩ (c.toNat : Int) w).mono fun e w' he => ?_
    obtain ⟨rfl, rfl⟩ := he
    have e : ((c.toNat : Int)).toNat.toUInt8 = c := by simp
    rw [e]
    exact ⟨rfl, Below.refl _ _⟩
theorem ixb2_ct (l : List UInt8) (c : UInt8) : Ct Tryz.prog 182 [.str l, .v (.int .u8 (c.toNat : Int))] (.v (.int .i64 (Lib.indexByte l c))) := by
  refine Ct.enter Tryz.tabOk ft182 ?_
  refine Ct.callC (ixb_ct l c) rfl (leL.refl _) ?_
  exact ⟨LV.le.refl _, rfl⟩
end Go.Proofs.Aw
