/- A PART OF THE PROOF: an abstract run of the loaded code over value trees, and the functions walked by it. No condition of its own. -/
import Derived.Test.YtanmknmlphkeaaaGreatDoorZP4
namespace Go.Proofs.Aw
open Go Go.Proofs Go.RowKit
set_option maxHeartbeats 8000000
set_option maxRecDepth 100000
/-- what a process's numbers are like -/
structure TyP (p : PV) : Prop where
  pid : i64R p.pid
  par : i64R p.par
  st : i64R p.st
  why : i64R p.why
  n : 0 ≤ p.n ∧ p.n < 18446744073709551616
theorem n64_of {x : Int} (h : 0 ≤ x ∧ x < 18446744073709551616) : x = ((n64 x : Nat) : Int) := by unfold n64; omega
def prL (p : PV) : List (List UInt8) := [Lib.itoa p.pid, Lib.itoa p.par, Lib.itoa p.st, cpuB p, spB p, fdsB p, flagB p.mask, putF (n64 p.code) 4, Lib.itoa p.why, putF (n64 p.n) 8]
def prB (p : PV) : List UInt8 := rowL (prL p)
theorem flagB_len (b : Bool) : (flagB b).length = 1 := by cases b <;> rfl
theorem prB_len (p : PV) (h : TyP p) : (prB p).length ≤ 2000 := by
  have h1 := itoa_len h.pid.1 h.pid.2
  have h2 := itoa_len h.par.1 h.par.2
  have h3 := itoa_len h.st.1 h.st.2
  have h4 := itoa_len h.why.1 h.why.2
  have e := fun n => lenEnc_len n n (Nat.le_refl _)
  have e1 := e (Lib.itoa p.pid).length
  have e2 := e (Lib.itoa p.par).length
  have e3 := e (Lib.itoa p.st).length
  have e4 := e (Lib.itoa p.why).length
  have f1 := e 68
  have f2 := e 32
  have f3 := e 136
  have f4 := e 4
  have f5 := e 8
  have f6 := e 1
  simp only [prB, prL, rowL, List.length_append, List.length_nil, cpuB_len, spB_len, fdsB_len, flagB_len, putF_len]
  omega
theorem rproc_ct (p : PV) (h : TyP p) : Ct Tryz.prog 97 [.agg p.c] (.str (prB p)) := by
  have e4 : rowN (atL (prL p)) 10 = prB p := rowN_list (prL p)
  have hb := prB_len p h
  refine Ct.enter Tryz.tab2Ok ft97 ?_
  refine DrawA.run Tryz.tab2Ok Tryz.mixed [0, 1, 3, 0, 8, 31, 0, 64, 255, 0, 512, 2047, 0, 4096, 16383, 0, 32768, 131071, 0, 262144, 1048575, 0, 2097152, 6291456, 16777215, 0, 33554432, 134217727, 0, 268435456, 1073741823, 2147483647, 4294967295, 8589934591] [31] rfl ?_
  refine ⟨_, ⟨LV.le.refl _, rfl⟩, ?_⟩
  refine ⟨_, ⟨LV.le.refl _, rfl⟩, ?_⟩
  refine ⟨_, Ct.callC (rnum_ct p.pid h.pid.1 h.pid.2) rfl (leL.refl _) ⟨LV.le.refl _, rfl⟩, ?_⟩
  refine ⟨_, ⟨LV.le.refl _, rfl⟩, ?_⟩
  refine ⟨_, ⟨LV.le.refl _, rfl⟩, ?_⟩
  refine ⟨_, Ct.callC (rnum_ct p.par h.par.1 h.par.2) rfl (leL.refl _) ⟨LV.le.refl _, rfl⟩, ?_⟩
  refine ⟨_, ⟨LV.le.refl _, rfl⟩, ?_⟩
  refine ⟨_, ⟨LV.le.refl _, rfl⟩, ?_⟩
  refine ⟨_, Ct.callC (rnum_ct p.st h.st.1 h.st.2) rfl (leL.refl _) ⟨LV.le.refl _, rfl⟩, ?_⟩
  refine ⟨_, ⟨LV.le.refl _, rfl⟩, ?_⟩
  refine ⟨.agg p.cpc, ⟨LV.le.refl _, rfl⟩, ?_⟩
  refine ⟨_, Ct.callC (rcpu_ct p) rfl (leL.refl _) ⟨LV.le.refl _, rfl⟩, ?_⟩
  refine ⟨_, ⟨LV.le.refl _, rfl⟩, ?_⟩
  refine ⟨.agg p.ptc, ⟨LV.le.refl _, rfl⟩, ?_⟩
  refine ⟨_, Ct.callC (rspace_ct p) rfl (leL.refl _) ⟨LV.le.refl _, rfl⟩, ?_⟩
  refine ⟨_, ⟨LV.le.refl _, rfl⟩, ?_⟩
  refine ⟨.agg p.fdc, ⟨LV.le.refl _, rfl⟩, ?_⟩
  refine ⟨_, Ct.callC (rfds_ct p) rfl (leL.refl _) ⟨LV.le.refl _, rfl⟩, ?_⟩
  refine ⟨_, ⟨LV.le.refl _, rfl⟩, ?_⟩
  refine ⟨_, ⟨LV.le.refl _, rfl⟩, ?_⟩
  refine ⟨_, Ct.callC (rflag_ct p.mask) rfl (leL.refl _) ⟨LV.le.refl _, rfl⟩, ?_⟩
  refine ⟨_, ⟨LV.le.refl _, rfl⟩, ?_⟩
  refine ⟨_, ⟨LV.le.refl _, rfl⟩, ?_⟩
  refine ⟨lv ((n64 p.code : Nat) : Int), ⟨LV.le.int (wn64 _), rfl⟩, ?_⟩
  refine ⟨_, Ct.callC (rput_ct (n64 p.code) 4 (n64_lt _) (by omega)) rfl (leL.refl _) ⟨LV.le.refl _, rfl⟩, ?_⟩
  refine ⟨_, ⟨LV.le.refl _, rfl⟩, ?_⟩
  refine ⟨_, ⟨LV.le.refl _, rfl⟩, ?_⟩
  refine ⟨_, Ct.callC (rnum_ct p.why h.why.1 h.why.2) rfl (leL.refl _) ⟨LV.le.refl _, rfl⟩, ?_⟩
  refine ⟨_, ⟨LV.le.refl _, rfl⟩, ?_⟩
  refine ⟨lv ((n64 p.n : Nat) : Int), ⟨LV.le.int (n64_of h.n), rfl⟩, ?_⟩
  refine ⟨_, Ct.callC (rput_ct (n64 p.n) 8 (n64_lt _) (by omega)) rfl (leL.refl _) ⟨LV.le.refl _, rfl⟩, ?_⟩
  refine ⟨_, _, ⟨LV.le.refl _, rfl⟩, ?_⟩
  refine ⟨.str (prB p), Ct.callF (rrow_ct 10 (atL (prL p)) (by omega) (by rw [e4]; omega)) rfl ⟨_, _, rfl, LV.le.sl rfl fun i hi => ?_, rfl⟩ rfl ⟨LV.le.eq (congrArg LV.str e4), rfl⟩, ?_⟩
  · rcases (by omega : i = 0 ∨ i = 1 ∨ i = 2 ∨ i = 3 ∨ i = 4 ∨ i = 5 ∨ i = 6 ∨ i = 7 ∨ i = 8 ∨ i = 9) with rfl | rfl | rfl | rfl | rfl | rfl | rfl | rfl | rfl | rfl <;> rfl
  refine ⟨_, ⟨LV.le.refl _, rfl⟩, ?_⟩
  refine ⟨True.intro, ?_⟩
  exact ⟨LV.le.refl _, rfl⟩
theorem page_ct (x : Bool × Bool × Int) (hx : x.1 = false → b8 x.2.2 = 0) : Ct Tryz.prog 96 [.agg (pte x)] (.str (pgB x)) := by
  refine Ct.enter Tryz.tab2Ok ft96 ?_
  refine ⟨fun a => ⟨fun b => ⟨fun c => ?_, fun c => ?_⟩, fun b => ?_⟩, fun a => ⟨fun b => ?_, fun b => ?_⟩⟩
  · refine ⟨[2, b8 x.2.2], ⟨rfl, fun i (hi : i < 2) => ?_⟩, ?_⟩
    · rcases (by omega : i = 0 ∨ i = 1) with rfl | rfl
      · rfl
      · exact congrArg (fun z => [LV.v (.int .u8 z)]) (w8b _)
    · exact ⟨LV.le.eq (congrArg LV.str (by unfold pgB; rw [a, c]; rfl)), rfl⟩
  · refine ⟨[1, b8 x.2.2], ⟨rfl, fun i (hi : i < 2) => ?_⟩, ?_⟩
    · rcases (by omega : i = 0 ∨ i = 1) with rfl | rfl
      · rfl
      · exact congrArg (fun z => [LV.v (.int .u8 z)]) (w8b _)
    · exact ⟨LV.le.eq (congrArg LV.str (by unfold pgB; rw [a, c]; rfl)), rfl⟩
  · rw [a] at b; cases b
  · rw [a] at b; cases b
  · refine ⟨[0, b8 x.2.2], ⟨rfl, fun i (hi : i < 2) => ?_⟩, ?_⟩
    · rcases (by omega : i = 0 ∨ i = 1) with rfl | rfl
      · rfl
      · exact congrArg (fun z => [LV.v (.int .u8 z)]) (w8b _)
    · exact ⟨LV.le.eq (congrArg LV.str (by unfold pgB; rw [a, hx a]; rfl)), rfl⟩
end Go.Proofs.Aw
namespace Go.Proofs.Aw
open Go Go.Proofs Go.RowKit
set_option maxHeartbeats 8000000
set_option maxRecDepth 100000
/-- a process, the table lying in memory -/
def PV.cY (o : Obj) (p : PV) : List LV := [yv o p.pid, yv o p.par, yv o p.st, uv (p.R 0), uv (p.R 1), uv (p.R 2), uv (p.R 3), uv (p.R 4), uv (p.R 5), uv (p.R 6), uv (p.R 7), uv (p.R 8), uv (p.R 9), uv (p.R 10), uv (p.R 11), uv (p.R 12), uv (p.R 13), uv (p.R 14), uv (p.R 15), uv p.pc, .bs (p.pt 0).1, .bs (p.pt 0).2.1, iv (p.pt 0).2.2, .bs (p.pt 1).1, .bs (p.pt 1).2.1, iv (p.pt 1).2.2, .bs (p.pt 2).1, .bs (p.pt 2).2.1, iv (p.pt 2).2.2, .bs (p.pt 3).1, .bs (p.pt 3).2.1, iv (p.pt 3).2.2, .bs (p.pt 4).1, .bs (p.pt 4).2.1, iv (p.pt 4).2.2, .bs (p.pt 5).1, .bs (p.pt 5).2.1, iv (p.pt 5).2.2, .bs (p.pt 6).1, .bs (p.pt 6).2.1, iv (p.pt 6).2.2, .bs (p.pt 7).1, .bs (p.pt 7).2.1, iv (p.pt 7).2.2, .bs (p.pt 8).1, .bs (p.pt 8).2.1, iv (p.pt 8).2.2, .bs (p.pt 9).1, .bs (p.pt 9).2.1, iv (p.pt 9).2.2, .bs (p.pt 10).1, .bs (p.pt 10).2.1, iv (p.pt 10).2.2, .bs (p.pt 11).1, .bs (p.pt 11).2.1, iv (p.pt 11).2.2, .bs (p.pt 12).1, .bs (p.pt 12).2.1, iv (p.pt 12).2.2, .bs (p.pt 13).1, .bs (p.pt 13).2.1, iv (p.pt 13).2.2, .bs (p.pt 14).1, .bs (p.pt 14).2.1, iv (p.pt 14).2.2, .bs (p.pt 15).1, .bs (p.pt 15).2.1, iv (p.pt 15).2.2, iv (p.fd 0).1, iv (p.fd 0).2.1, iv (p.fd 0).2.2, iv (p.fd 1).1, iv (p.fd 1).2.1, iv (p.fd 1).2.2, iv (p.fd 2).1, iv (p.fd 2).2.1, iv (p.fd 2).2.2, iv (p.fd 3).1, iv (p.fd 3).2.1, iv (p.fd 3).2.2, iv (p.fd 4).1, iv (p.fd 4).2.1, iv (p.fd 4).2.2, iv (p.fd 5).1, iv (p.fd 5).2.1, iv (p.fd 5).2.2, iv (p.fd 6).1, iv (p.fd 6).2.1, iv (p.fd 6).2.2, iv (p.fd 7).1, iv (p.fd 7).2.1, iv (p.fd 7).2.2, .bs p.mask, uv p.code, yv o p.why, lv p.n]
def adO (o j : Nat) : LV := match j with
  | 0 => .v (.pointer none)
  | _ + 1 => .lp o 0
theorem adO_is (o j : Nat) : adO o j = .v (.pointer none) ∨ adO o j = .lp o 0 := by
  cases j with
  | zero => exact .inl rfl
  | succ j => exact .inr rfl
theorem adO_under (o j N : Nat) (h : Nat.blt o N = true) : (adO o j).under N = true := by
  cases j with
  | zero => rfl
  | succ j => exact h
theorem LO.le.bytes {l l' : List UInt8} (h : l = l') : LO.le (.arr 5 1 l.length (bytesG l)) (.arr 5 1 l'.length (bytesG l')) := by subst h; exact LO.le.refl _
def NoPage (p : PV) : Prop := ∀ k, k < 16 → (p.pt k).1 = false → b8 (p.pt k).2.2 = 0
set_option maxHeartbeats 16000000 in
theorem gproc_ct {o : Obj} (ho : PowO o) (p : PV) (h : TyP p) (hg : NoPage p) : Ct Tryz.prog 50 [.agg (p.cY o)] (.str (prB p)) := by
  obtain ⟨A, hA⟩ : ∃ A, catN (rgB p) 16 = A := ⟨_, rfl⟩
  obtain ⟨C, hC⟩ : ∃ C, A ++ putF (n64 p.pc) 4 = C := ⟨_, rfl⟩
  obtain ⟨B, hB⟩ : ∃ B, spB p = B := ⟨_, rfl⟩
  obtain ⟨F, hF⟩ : ∃ F, fdsB p = F := ⟨_, rfl⟩
  have eC : cpuB p = C := by rw [← hC, ← hA]; rfl
  have lA : A.length = 64 := by rw [← hA, catN_len (rgB_len p)]
  refine Ct.enterA Tryz.tab2Ok ft50 fun org => ?_
  refine AW.step Tryz.tab2Ok rfl ?_
  refine AW.step Tryz.tab2Ok rfl ?_
  refine AW.cut Tryz.tab2Ok True ⟨[(1, .lp 0 0), (2, .str []), (3, .lp 1 0), (4, .lp 2 0), (5, .lp 3 0)], [(4, .arr 5 1 A.length (bytesG A)), (1, .box 137 [.lp 1 0, .ls 4 A.length]), (2, .box 137 [.v (.pointer none), .v (.slice none 0 0)]), (3, .box 137 [.v (.pointer none), .v (.slice none 0 0)]), (0, .box 77 (p.cY o))], 5, 0⟩ rfl ?_ fun _ => ?_
  · refine ⟨Nat, fun k => ⟨[(15, iv (k : Int)), (14, .agg p.rc), (1, .lp 0 0), (2, .str []), (3, .lp 1 0), (4, .lp 2 0), (5, .lp 3 0)], [(4, .arr 5 1 (catN (rgB p) k).length (bytesG (catN (rgB p) k))), (1, .box 137 [adO 1 k, .ls 4 (catN (rgB p) k).length]), (2, .box 137 [.v (.pointer none), .v (.slice none 0 0)]), (3, .box 137 [.v (.pointer none), .v (.slice none 0 0)]), (0, .box 77 (p.cY o))], 5, 0⟩, fun k => k ≤ 16 ∧ True, fun k => 16 - k, 0, ⟨Nat.zero_le _, True.intro⟩, .own (ty := 5) (sz := 1) ⟨rfl, rfl, ⟨.refl _, rfl, .refl _, rfl, .refl _, rfl, .refl _, rfl, .refl _, rfl, .refl _, rfl, .refl _, rfl, trivial⟩, ⟨⟨_, rfl, .of (LO.le.arr rfl fun i hi => absurd hi (by simp))⟩, rfl, rfl, ⟨_, rfl, .box ⟨_, _, rfl, .refl _, _, _, rfl, .nil, rfl⟩⟩, rfl, rfl, ⟨_, rfl, .refl _⟩, rfl, rfl, ⟨_, rfl, .refl _⟩, rfl, rfl, ⟨_, rfl, .refl _⟩, rfl, rfl, trivial⟩⟩, fun k hj => ⟨fun h => ?_, fun h => ?_⟩⟩
    · obtain ⟨hj, hp⟩ := hj
      have h := dT h
      have h : (k : Int) < ((16 : Nat) : Int) := h
      have hk : k < 16 := by omega
      have ek := w1 hk (by omega)
      have hl := catN_len (rgB_len p) k
      have hl2 := rgB_len p k
      refine ⟨⟨by omega, by omega⟩, loadK_at _ (r_at p k hk) ?_⟩
      refine Ct.callC (put_ct (n64 (p.R k)) 4 (n64_lt _) (by omega)) rfl ⟨_, _, rfl, LV.le.int (wn64 _), _, _, rfl, LV.le.refl _, rfl⟩ ?_
      refine CallA.body Tryz.tabOk ft87 ?_
      refine cc_ca (adO_is 1 k) rfl ?_
      refine ⟨by show (catN (rgB p) k).length + (rgB p k).length ≤ _; omega, ?_⟩
      refine ⟨k + 1, ⟨(by omega : k + 1 ≤ 16), True.intro⟩, (by omega : 16 - (k + 1) < 16 - k), .ren (a := 4) (b := 5) ⟨rfl, ⟨rfl, rfl, rfl, Nat.le_of_ble_eq_true rfl⟩, ⟨LV.le.int ek, rfl, LV.le.refl _, rfl, LV.le.refl _, rfl, LV.le.refl _, rfl, LV.le.refl _, rfl, LV.le.refl _, rfl, LV.le.refl _, rfl, trivial⟩, ⟨⟨_, rfl, LO.le.arr (by show _ = (catN (rgB p) k ++ rgB p k).length; exact List.length_append.symm) fun i hi => bytes_app (a := catN (rgB p) k) (b := rgB p k) i hi⟩, rfl, rfl, ⟨_, rfl, LO.le.box ⟨_, _, rfl, LV.le.refl _, _, _, rfl, LV.le.eq (congrArg (LV.ls 5) (by show _ = (catN (rgB p) k ++ rgB p k).length; exact List.length_append.symm)), rfl⟩⟩, rfl, rfl, ⟨_, rfl, LO.le.refl _⟩, rfl, rfl, ⟨_, rfl, LO.le.refl _⟩, rfl, rfl, ⟨_, rfl, LO.le.refl _⟩, rfl, rfl, trivial⟩⟩⟩
    · obtain ⟨hj, hp⟩ := hj
      have h := dF h
      have h : ¬ (k : Int) < ((16 : Nat) : Int) := h
      have hn : k = 16 := by have : k ≤ 16 := hj; omega
      subst hn
      exact ⟨True.intro, .le ⟨rfl, ⟨rfl, Nat.le_of_ble_eq_true rfl⟩, ⟨LV.le.refl _, rfl, LV.le.refl _, rfl, LV.le.refl _, rfl, LV.le.refl _, rfl, LV.le.refl _, rfl, trivial⟩, ⟨⟨_, rfl, LO.le.bytes hA⟩, rfl, rfl, ⟨_, rfl, LO.le.box ⟨_, _, rfl, LV.le.refl _, _, _, rfl, LV.le.eq (congrArg (fun l => LV.ls 4 (List.length l)) hA), rfl⟩⟩, rfl, rfl, ⟨_, rfl, LO.le.refl _⟩, rfl, rfl, ⟨_, rfl, LO.le.refl _⟩, rfl, rfl, ⟨_, rfl, LO.le.refl _⟩, rfl, rfl, trivial⟩⟩⟩
  refine AW.cut Tryz.tab2Ok True ⟨[(1, .lp 0 0), (2, .str []), (3, .lp 1 0), (4, .lp 2 0), (5, .lp 3 0)], [(5, .arr 5 1 C.length (bytesG C)), (1, .box 137 [.lp 1 0, .ls 5 C.length]), (2, .box 137 [.v (.pointer none), .v (.slice none 0 0)]), (3, .box 137 [.v (.pointer none), .v (.slice none 0 0)]), (0, .box 77 (p.cY o))], 6, 0⟩ rfl ?_ fun _ => ?_
  · refine Ct.callC (put_ct (n64 p.pc) 4 (n64_lt _) (by omega)) rfl ⟨_, _, rfl, LV.le.int (wn64 _), _, _, rfl, LV.le.refl _, rfl⟩ ?_
    have hl2 := putF_len (n64 p.pc) 4
    refine CallA.body Tryz.tabOk ft87 ?_
    refine cc_ca (.inr rfl) rfl ?_
    refine ⟨by show A.length + (putF (n64 p.pc) 4).length ≤ _; omega, ?_⟩
    exact ⟨True.intro, .le ⟨rfl, ⟨rfl, Nat.le_of_ble_eq_true rfl⟩, ⟨LV.le.refl _, rfl, LV.le.refl _, rfl, LV.le.refl _, rfl, LV.le.refl _, rfl, LV.le.refl _, rfl, trivial⟩, ⟨⟨_, rfl, LO.le.arr (by rw [← hC]; exact List.length_append.symm) fun i hi => (bytes_app (a := A) (b := putF (n64 p.pc) 4) i hi).trans (by rw [hC])⟩, rfl, rfl, ⟨_, rfl, LO.le.box ⟨_, _, rfl, LV.le.refl _, _, _, rfl, LV.le.eq (congrArg (LV.ls 5) (by rw [← hC]; exact List.length_append.symm)), rfl⟩⟩, rfl, rfl, ⟨_, rfl, LO.le.refl _⟩, rfl, rfl, ⟨_, rfl, LO.le.refl _⟩, rfl, rfl, ⟨_, rfl, LO.le.refl _⟩, rfl, rfl, trivial⟩⟩⟩
  refine AW.cut Tryz.tab2Ok True ⟨[(1, .lp 0 0), (2, .str []), (3, .lp 1 0), (4, .lp 2 0), (5, .lp 3 0)], [(6, .arr 5 1 B.length (bytesG B)), (2, .box 137 [.lp 2 0, .ls 6 B.length]), (5, .arr 5 1 C.length (bytesG C)), (1, .box 137 [.lp 1 0, .ls 5 C.length]), (3, .box 137 [.v (.pointer none), .v (.slice none 0 0)]), (0, .box 77 (p.cY o))], 7, 0⟩ rfl ?_ fun _ => ?_
  · refine ⟨Nat, fun k => ⟨[(31, iv (k : Int)), (30, .agg p.ptc), (1, .lp 0 0), (2, .str []), (3, .lp 1 0), (4, .lp 2 0), (5, .lp 3 0)], [(6, .arr 5 1 (catN (fun k => pgB (p.pt k)) k).length (bytesG (catN (fun k => pgB (p.pt k)) k))), (2, .box 137 [adO 2 k, .ls 6 (catN (fun k => pgB (p.pt k)) k).length]), (5, .arr 5 1 C.length (bytesG C)), (1, .box 137 [.lp 1 0, .ls 5 C.length]), (3, .box 137 [.v (.pointer none), .v (.slice none 0 0)]), (0, .box 77 (p.cY o))], 7, 0⟩, fun k => k ≤ 16 ∧ True, fun k => 16 - k, 0, ⟨Nat.zero_le _, True.intro⟩, .own (ty := 5) (sz := 1) ⟨rfl, rfl, ⟨.refl _, rfl, .refl _, rfl, .refl _, rfl, .refl _, rfl, .refl _, rfl, .refl _, rfl, .refl _, rfl, trivial⟩, ⟨⟨_, rfl, .of (LO.le.arr rfl fun i hi => absurd hi (by simp))⟩, rfl, rfl, ⟨_, rfl, .box ⟨_, _, rfl, .refl _, _, _, rfl, .nil, rfl⟩⟩, rfl, rfl, ⟨_, rfl, .refl _⟩, rfl, rfl, ⟨_, rfl, .refl _⟩, rfl, rfl, ⟨_, rfl, .refl _⟩, rfl, rfl, ⟨_, rfl, .refl _⟩, rfl, rfl, trivial⟩⟩, fun k hj => ⟨fun h => ?_, fun h => ?_⟩⟩
    · obtain ⟨hj, hp⟩ := hj
      have h := dT h
      have h : (k : Int) < ((16 : Nat) : Int) := h
      have hk : k < 16 := by omega
      have ek := w1 hk (by omega)
      have hl3 := catN_len (fun k => pgB_len (p.pt k)) k
      have hl4 := pgB_len (p.pt k)
      refine ⟨⟨by omega, by omega⟩, loadK_at _ (pt_at p k hk) ?_⟩
      refine Ct.callC (page_ct (p.pt k) (hg k hk)) rfl (leL.refl _) ?_
      refine CallA.body Tryz.tabOk ft87 ?_
      refine cc_ca (adO_is 2 k) rfl ?_
      refine ⟨by show (catN (fun k => pgB (p.pt k)) k).length + (pgB (p.pt k)).length ≤ _; omega, ?_⟩
      refine ⟨k + 1, ⟨(by omega : k + 1 ≤ 16), True.intro⟩, (by omega : 16 - (k + 1) < 16 - k), .ren (a := 6) (b := 8) ⟨rfl, ⟨rfl, rfl, rfl, Nat.le_of_ble_eq_true rfl⟩, ⟨LV.le.int ek, rfl, LV.le.refl _, rfl, LV.le.refl _, rfl, LV.le.refl _, rfl, LV.le.refl _, rfl, LV.le.refl _, rfl, LV.le.refl _, rfl, trivial⟩, ⟨⟨_, rfl, LO.le.arr (by show _ = (catN (fun k => pgB (p.pt k)) k ++ pgB (p.pt k)).length; exact List.length_append.symm) fun i hi => bytes_app (a := catN (fun k => pgB (p.pt k)) k) (b := pgB (p.pt k)) i hi⟩, rfl, rfl, ⟨_, rfl, LO.le.box ⟨_, _, rfl, LV.le.refl _, _, _, rfl, LV.le.eq (congrArg (LV.ls 8) (by show _ = (catN (fun k => pgB (p.pt k)) k ++ pgB (p.pt k)).length; exact List.length_append.symm)), rfl⟩⟩, rfl, rfl, ⟨_, rfl, LO.le.refl _⟩, rfl, rfl, ⟨_, rfl, LO.le.refl _⟩, rfl, rfl, ⟨_, rfl, LO.le.refl _⟩, rfl, rfl, ⟨_, rfl, LO.le.refl _⟩, rfl, rfl, trivial⟩⟩⟩
    · obtain ⟨hj, hp⟩ := hj
      have h := dF h
      have h : ¬ (k : Int) < ((16 : Nat) : Int) := h
      have hn : k = 16 := by have : k ≤ 16 := hj; omega
      subst hn
      exact ⟨True.intro, .le ⟨rfl, ⟨rfl, Nat.le_of_ble_eq_true rfl⟩, ⟨LV.le.refl _, rfl, LV.le.refl _, rfl, LV.le.refl _, rfl, LV.le.refl _, rfl, LV.le.refl _, rfl, trivial⟩, ⟨⟨_, rfl, LO.le.bytes hB⟩, rfl, rfl, ⟨_, rfl, LO.le.box ⟨_, _, rfl, LV.le.refl _, _, _, rfl, LV.le.eq (congrArg (fun l => LV.ls 6 (List.length l)) hB), rfl⟩⟩, rfl, rfl, ⟨_, rfl, LO.le.refl _⟩, rfl, rfl, ⟨_, rfl, LO.le.refl _⟩, rfl, rfl, ⟨_, rfl, LO.le.refl _⟩, rfl, rfl, ⟨_, rfl, LO.le.refl _⟩, rfl, rfl, trivial⟩⟩⟩
  refine AW.cut Tryz.tab2Ok True ⟨[(1, .lp 0 0), (2, .str []), (3, .lp 1 0), (4, .lp 2 0), (5, .lp 3 0)], [(7, .arr 5 1 F.length (bytesG F)), (3, .box 137 [.lp 3 0, .ls 7 F.length]), (6, .arr 5 1 B.length (bytesG B)), (2, .box 137 [.lp 2 0, .ls 6 B.length]), (5, .arr 5 1 C.length (bytesG C)), (1, .box 137 [.lp 1 0, .ls 5 C.length]), (0, .box 77 (p.cY o))], 8, 0⟩ rfl ?_ fun _ => ?_
  · refine ⟨Nat, fun k => ⟨[(40, iv (k : Int)), (39, .agg p.fdc), (1, .lp 0 0), (2, .str []), (3, .lp 1 0), (4, .lp 2 0), (5, .lp 3 0)], [(7, .arr 5 1 (catN (fun k => fdB (p.fd k)) k).length (bytesG (catN (fun k => fdB (p.fd k)) k))), (3, .box 137 [adO 3 k, .ls 7 (catN (fun k => fdB (p.fd k)) k).length]), (6, .arr 5 1 B.length (bytesG B)), (2, .box 137 [.lp 2 0, .ls 6 B.length]), (5, .arr 5 1 C.length (bytesG C)), (1, .box 137 [.lp 1 0, .ls 5 C.length]), (0, .box 77 (p.cY o))], 8, 0⟩, fun k => k ≤ 8 ∧ True, fun k => 8 - k, 0, ⟨Nat.zero_le _, True.intro⟩, .own (ty := 5) (sz := 1) ⟨rfl, rfl, ⟨.refl _, rfl, .refl _, rfl, .refl _, rfl, .refl _, rfl, .refl _, rfl, .refl _, rfl, .refl _, rfl, trivial⟩, ⟨⟨_, rfl, .of (LO.le.arr rfl fun i hi => absurd hi (by simp))⟩, rfl, rfl, ⟨_, rfl, .box ⟨_, _, rfl, .refl _, _, _, rfl, .nil, rfl⟩⟩, rfl, rfl, ⟨_, rfl, .refl _⟩, rfl, rfl, ⟨_, rfl, .refl _⟩, rfl, rfl, ⟨_, rfl, .refl _⟩, rfl, rfl, ⟨_, rfl, .refl _⟩, rfl, rfl, ⟨_, rfl, .refl _⟩, rfl, rfl, trivial⟩⟩, fun k hj => ⟨fun h => ?_, fun h => ?_⟩⟩
    · obtain ⟨hj, hp⟩ := hj
      have h := dT h
      have h : (k : Int) < ((8 : Nat) : Int) := h
      have hk : k < 8 := by omega
      have ek := w1 hk (by omega)
      have hl3 := catN_len (fun k => fdB_len (p.fd k)) k
      have hl4 := fdB_len (p.fd k)
      refine ⟨⟨by omega, by omega⟩, loadK_at _ (fd_at p k hk) ?_⟩
      clear h
      rcases k with _ | k
      · refine DrawA.run Tryz.tab2Ok Tryz.mixed [0, 1, 3, 7, 0, 16, 48, 127, 255, 0, 512, 1536, 3839, 8191, 16383] [14] rfl ?_
        refine ⟨_, ⟨LV.le.refl _, rfl⟩, ?_⟩
        refine ⟨_, ⟨LV.le.refl _, rfl⟩, ?_⟩
        refine ⟨lv ((n64 (p.fd 0).1 : Nat) : Int), ⟨LV.le.int (wn64 _), rfl⟩, ?_⟩
        refine ⟨.str [b8 (p.fd 0).1], Ct.callC (put_ct (n64 (p.fd 0).1) 1 (n64_lt _) (by omega)) rfl (leL.refl _) ⟨LV.le.eq (congrArg LV.str (put1 _)), rfl⟩, ?_⟩
        refine ⟨_, ⟨LV.le.refl _, rfl⟩, ?_⟩
        refine ⟨_, ⟨LV.le.refl _, rfl⟩, ?_⟩
        refine ⟨lv ((n64 (p.fd 0).2.1 : Nat) : Int), ⟨LV.le.int (wn64 _), rfl⟩, ?_⟩
        refine ⟨_, Ct.callC (put_ct (n64 (p.fd 0).2.1) 8 (n64_lt _) (by omega)) rfl (leL.refl _) ⟨LV.le.refl _, rfl⟩, ?_⟩
        refine ⟨_, ⟨by show 1 + (putF (n64 (p.fd 0).2.1) 8).length ≤ _; rw [putF_len]; omega, LV.le.refl _, rfl⟩, ?_⟩
        refine ⟨_, ⟨LV.le.refl _, rfl⟩, ?_⟩
        refine ⟨_, ⟨LV.le.refl _, rfl⟩, ?_⟩
        refine ⟨lv ((n64 (p.fd 0).2.2 : Nat) : Int), ⟨LV.le.int (wn64 _), rfl⟩, ?_⟩
        refine ⟨_, Ct.callC (put_ct (n64 (p.fd 0).2.2) 8 (n64_lt _) (by omega)) rfl (leL.refl _) ⟨LV.le.refl _, rfl⟩, ?_⟩
        refine ⟨.str (fdB (p.fd 0)), ⟨by show ([b8 (p.fd 0).1] ++ putF (n64 (p.fd 0).2.1) 8).length + (putF (n64 (p.fd 0).2.2) 8).length ≤ _; rw [List.length_append, putF_len, putF_len]; show 1 + 8 + 8 ≤ _; omega, LV.le.refl _, rfl⟩, ?_⟩
        refine ⟨_, _, CallA.body (fn := Tryz.f87) Tryz.tabOk ft87 (by refine cc_ca (adO_is 3 0) rfl ?_; exact ⟨by show (catN (fun k => fdB (p.fd k)) 0).length + (fdB (p.fd 0)).length ≤ _; omega, LV.le.refl _, rfl⟩), ?_⟩
        refine ⟨True.intro, ?_⟩
        refine ⟨0 + 1, ⟨(by omega : 0 + 1 ≤ 8), True.intro⟩, (by omega : 8 - (0 + 1) < 8 - 0), .ren (a := 7) (b := 9) ⟨rfl, ⟨rfl, rfl, rfl, Nat.le_of_ble_eq_true rfl⟩, ⟨LV.le.int ek, rfl, LV.le.refl _, rfl, LV.le.refl _, rfl, LV.le.refl _, rfl, LV.le.refl _, rfl, LV.le.refl _, rfl, LV.le.refl _, rfl, trivial⟩, ⟨⟨_, rfl, LO.le.arr (by show _ = (catN (fun k => fdB (p.fd k)) 0 ++ fdB (p.fd 0)).length; exact List.length_append.symm) fun i hi => bytes_app (a := catN (fun k => fdB (p.fd k)) 0) (b := fdB (p.fd 0)) i hi⟩, rfl, rfl, ⟨_, rfl, LO.le.box ⟨_, _, rfl, LV.le.refl _, _, _, rfl, LV.le.eq (congrArg (LV.ls 9) (by show _ = (catN (fun k => fdB (p.fd k)) 0 ++ fdB (p.fd 0)).length; exact List.length_append.symm)), rfl⟩⟩, rfl, rfl, ⟨_, rfl, LO.le.refl _⟩, rfl, rfl, ⟨_, rfl, LO.le.refl _⟩, rfl, rfl, ⟨_, rfl, LO.le.refl _⟩, rfl, rfl, ⟨_, rfl, LO.le.refl _⟩, rfl, rfl, ⟨_, rfl, LO.le.refl _⟩, rfl, rfl, trivial⟩⟩⟩
      · refine DrawA.run Tryz.tab2Ok Tryz.mixed [0, 1, 3, 7, 0, 16, 48, 127, 255, 0, 512, 1536, 3839, 8191, 16383] [14] rfl ?_
        refine ⟨_, ⟨LV.le.refl _, rfl⟩, ?_⟩
        refine ⟨_, ⟨LV.le.refl _, rfl⟩, ?_⟩
        refine ⟨lv ((n64 (p.fd (k + 1)).1 : Nat) : Int), ⟨LV.le.int (wn64 _), rfl⟩, ?_⟩
        refine ⟨.str [b8 (p.fd (k + 1)).1], Ct.callC (put_ct (n64 (p.fd (k + 1)).1) 1 (n64_lt _) (by omega)) rfl (leL.refl _) ⟨LV.le.eq (congrArg LV.str (put1 _)), rfl⟩, ?_⟩
        refine ⟨_, ⟨LV.le.refl _, rfl⟩, ?_⟩
        refine ⟨_, ⟨LV.le.refl _, rfl⟩, ?_⟩
        refine ⟨lv ((n64 (p.fd (k + 1)).2.1 : Nat) : Int), ⟨LV.le.int (wn64 _), rfl⟩, ?_⟩
        refine ⟨_, Ct.callC (put_ct (n64 (p.fd (k + 1)).2.1) 8 (n64_lt _) (by omega)) rfl (leL.refl _) ⟨LV.le.refl _, rfl⟩, ?_⟩
        refine ⟨_, ⟨by show 1 + (putF (n64 (p.fd (k + 1)).2.1) 8).length ≤ _; rw [putF_len]; omega, LV.le.refl _, rfl⟩, ?_⟩
        refine ⟨_, ⟨LV.le.refl _, rfl⟩, ?_⟩
        refine ⟨_, ⟨LV.le.refl _, rfl⟩, ?_⟩
        refine ⟨lv ((n64 (p.fd (k + 1)).2.2 : Nat) : Int), ⟨LV.le.int (wn64 _), rfl⟩, ?_⟩
        refine ⟨_, Ct.callC (put_ct (n64 (p.fd (k + 1)).2.2) 8 (n64_lt _) (by omega)) rfl (leL.refl _) ⟨LV.le.refl _, rfl⟩, ?_⟩
        refine ⟨.str (fdB (p.fd (k + 1))), ⟨by show ([b8 (p.fd (k + 1)).1] ++ putF (n64 (p.fd (k + 1)).2.1) 8).length + (putF (n64 (p.fd (k + 1)).2.2) 8).length ≤ _; rw [List.length_append, putF_len, putF_len]; show 1 + 8 + 8 ≤ _; omega, LV.le.refl _, rfl⟩, ?_⟩
        refine ⟨_, _, CallA.body (fn := Tryz.f87) Tryz.tabOk ft87 (by refine cc_ca (adO_is 3 (k + 1)) rfl ?_; exact ⟨by show (catN (fun k => fdB (p.fd k)) (k + 1)).length + (fdB (p.fd (k + 1))).length ≤ _; omega, LV.le.refl _, rfl⟩), ?_⟩
        refine ⟨True.intro, ?_⟩
        refine ⟨(k + 1) + 1, ⟨(by omega : (k + 1) + 1 ≤ 8), True.intro⟩, (by omega : 8 - ((k + 1) + 1) < 8 - (k + 1)), .ren (a := 7) (b := 9) ⟨rfl, ⟨rfl, rfl, rfl, Nat.le_of_ble_eq_true rfl⟩, ⟨LV.le.int ek, rfl, LV.le.refl _, rfl, LV.le.refl _, rfl, LV.le.refl _, rfl, LV.le.refl _, rfl, LV.le.refl _, rfl, LV.le.refl _, rfl, trivial⟩, ⟨⟨_, rfl, LO.le.arr (by show _ = (catN (fun k => fdB (p.fd k)) (k + 1) ++ fdB (p.fd (k + 1))).length; exact List.length_append.symm) fun i hi => bytes_app (a := catN (fun k => fdB (p.fd k)) (k + 1)) (b := fdB (p.fd (k + 1))) i hi⟩, rfl, rfl, ⟨_, rfl, LO.le.box ⟨_, _, rfl, LV.le.refl _, _, _, rfl, LV.le.eq (congrArg (LV.ls 9) (by show _ = (catN (fun k => fdB (p.fd k)) (k + 1) ++ fdB (p.fd (k + 1))).length; exact List.length_append.symm)), rfl⟩⟩, rfl, rfl, ⟨_, rfl, LO.le.refl _⟩, rfl, rfl, ⟨_, rfl, LO.le.refl _⟩, rfl, rfl, ⟨_, rfl, LO.le.refl _⟩, rfl, rfl, ⟨_, rfl, LO.le.refl _⟩, rfl, rfl, ⟨_, rfl, LO.le.refl _⟩, rfl, rfl, trivial⟩⟩⟩
    · obtain ⟨hj, hp⟩ := hj
      have h := dF h
      have h : ¬ (k : Int) < ((8 : Nat) : Int) := h
      have hn : k = 8 := by have : k ≤ 8 := hj; omega
      subst hn
      exact ⟨True.intro, .le ⟨rfl, ⟨rfl, Nat.le_of_ble_eq_true rfl⟩, ⟨LV.le.refl _, rfl, LV.le.refl _, rfl, LV.le.refl _, rfl, LV.le.refl _, rfl, LV.le.refl _, rfl, trivial⟩, ⟨⟨_, rfl, LO.le.bytes hF⟩, rfl, rfl, ⟨_, rfl, LO.le.box ⟨_, _, rfl, LV.le.refl _, _, _, rfl, LV.le.eq (congrArg (fun l => LV.ls 7 (List.length l)) hF), rfl⟩⟩, rfl, rfl, ⟨_, rfl, LO.le.refl _⟩, rfl, rfl, ⟨_, rfl, LO.le.refl _⟩, rfl, rfl, ⟨_, rfl, LO.le.refl _⟩, rfl, rfl, ⟨_, rfl, LO.le.refl _⟩, rfl, rfl, ⟨_, rfl, LO.le.refl _⟩, rfl, rfl, trivial⟩⟩⟩
  refine AW.run Tryz.tab2Ok rfl ?_
  have e4 : rowN (atL [Lib.itoa p.pid, Lib.itoa p.par, Lib.itoa p.st, C, B, F, flagB p.mask, putF (n64 p.code) 4, Lib.itoa p.why, putF (n64 p.n) 8]) 10 = prB p := by
    rw [← eC, ← hB, ← hF]; exact rowN_list (prL p)
  have hb := prB_len p h
  clear hA hC hB hF eC lA
  refine DrawA.run Tryz.tab2Ok Tryz.mixed [0, 1, 3, 0, 8, 31, 0, 64, 255, 511, 1023, 2047, 0, 4096, 16383, 0, 32768, 98304, 262143, 0, 524288, 2097151, 0, 4194304, 16777215, 33554431, 67108863, 134217727] [9, 10, 11, 25] rfl ?_
  refine ⟨_, ⟨LV.le.refl _, rfl⟩, ?_⟩
  refine ⟨_, ⟨LV.le.refl _, rfl⟩, ?_⟩
  refine ⟨_, Ct.callC (dec_ct ho p.pid h.pid.1 h.pid.2) rfl (leL.refl _) ⟨LV.le.refl _, rfl⟩, ?_⟩
  refine ⟨_, ⟨LV.le.refl _, rfl⟩, ?_⟩
  refine ⟨_, ⟨LV.le.refl _, rfl⟩, ?_⟩
  refine ⟨_, Ct.callC (dec_ct ho p.par h.par.1 h.par.2) rfl (leL.refl _) ⟨LV.le.refl _, rfl⟩, ?_⟩
  refine ⟨_, ⟨LV.le.refl _, rfl⟩, ?_⟩
  refine ⟨_, ⟨LV.le.refl _, rfl⟩, ?_⟩
  refine ⟨_, Ct.callC (dec_ct ho p.st h.st.1 h.st.2) rfl (leL.refl _) ⟨LV.le.refl _, rfl⟩, ?_⟩
  refine ⟨.str C, _, (by refine bs_ca (l := C) rfl rfl ⟨rfl, fun i hi => rfl⟩ ?_; exact ⟨LV.le.refl _, rfl⟩), ?_⟩
  refine ⟨.str B, _, (by refine bs_ca (l := B) rfl rfl ⟨rfl, fun i hi => rfl⟩ ?_; exact ⟨LV.le.refl _, rfl⟩), ?_⟩
  refine ⟨.str F, _, (by refine bs_ca (l := F) rfl rfl ⟨rfl, fun i hi => rfl⟩ ?_; exact ⟨LV.le.refl _, rfl⟩), ?_⟩
  refine ⟨_, ⟨LV.le.refl _, rfl⟩, ?_⟩
  refine ⟨_, ⟨LV.le.refl _, rfl⟩, ?_⟩
  refine ⟨_, Ct.callC (flag_ct p.mask) rfl (leL.refl _) ⟨LV.le.refl _, rfl⟩, ?_⟩
  refine ⟨_, ⟨LV.le.refl _, rfl⟩, ?_⟩
  refine ⟨_, ⟨LV.le.refl _, rfl⟩, ?_⟩
  refine ⟨lv ((n64 p.code : Nat) : Int), ⟨LV.le.int (wn64 _), rfl⟩, ?_⟩
  refine ⟨_, Ct.callC (put_ct (n64 p.code) 4 (n64_lt _) (by omega)) rfl (leL.refl _) ⟨LV.le.refl _, rfl⟩, ?_⟩
  refine ⟨_, ⟨LV.le.refl _, rfl⟩, ?_⟩
  refine ⟨_, ⟨LV.le.refl _, rfl⟩, ?_⟩
  refine ⟨_, Ct.callC (dec_ct ho p.why h.why.1 h.why.2) rfl (leL.refl _) ⟨LV.le.refl _, rfl⟩, ?_⟩
  refine ⟨_, ⟨LV.le.refl _, rfl⟩, ?_⟩
  refine ⟨lv ((n64 p.n : Nat) : Int), ⟨LV.le.int (n64_of h.n), rfl⟩, ?_⟩
  refine ⟨_, Ct.callC (put_ct (n64 p.n) 8 (n64_lt _) (by omega)) rfl (leL.refl _) ⟨LV.le.refl _, rfl⟩, ?_⟩
  refine ⟨_, _, ⟨LV.le.refl _, rfl⟩, ?_⟩
  refine ⟨.str (prB p), Ct.callF (row_ct 10 (atL [Lib.itoa p.pid, Lib.itoa p.par, Lib.itoa p.st, C, B, F, flagB p.mask, putF (n64 p.code) 4, Lib.itoa p.why, putF (n64 p.n) 8]) (by omega) (by rw [e4]; omega)) rfl ⟨_, _, rfl, LV.le.sl rfl fun i hi => ?_, rfl⟩ rfl ⟨LV.le.eq (congrArg LV.str e4), rfl⟩, ?_⟩
  · rcases (by omega : i = 0 ∨ i = 1 ∨ i = 2 ∨ i = 3 ∨ i = 4 ∨ i = 5 ∨ i = 6 ∨ i = 7 ∨ i = 8 ∨ i = 9) with rfl | rfl | rfl | rfl | rfl | rfl | rfl | rfl | rfl | rfl <;> rfl
  refine ⟨_, ⟨LV.le.refl _, rfl⟩, ?_⟩
  refine ⟨⟨⟨⟨LV.le.refl _, rfl⟩, ⟨LV.le.refl _, rfl⟩, ⟨LV.le.refl _, rfl⟩, True.intro, True.intro⟩, ⟨⟨LV.le.refl _, rfl⟩, ⟨LV.le.refl _, rfl⟩, ⟨LV.le.refl _, rfl⟩, True.intro, True.intro⟩, ⟨⟨LV.le.refl _, rfl⟩, ⟨LV.le.refl _, rfl⟩, ⟨LV.le.refl _, rfl⟩, True.intro, True.intro⟩, ⟨⟨LV.le.refl _, rfl⟩, ⟨LV.le.refl _, rfl⟩, ⟨LV.le.refl _, rfl⟩, True.intro, True.intro⟩, ⟨⟨LV.le.int (wn64 _), rfl⟩, ⟨LV.le.int (wn64 _), rfl⟩, ⟨LV.le.int (wn64 _), rfl⟩, True.intro, True.intro⟩, ⟨⟨LV.le.refl _, rfl⟩, ⟨LV.le.refl _, rfl⟩, ⟨LV.le.refl _, rfl⟩, True.intro, True.intro⟩, ⟨⟨LV.le.refl _, rfl⟩, ⟨LV.le.refl _, rfl⟩, ⟨LV.le.refl _, rfl⟩, True.intro, True.intro⟩, ⟨⟨LV.le.refl _, rfl⟩, ⟨LV.le.refl _, rfl⟩, ⟨LV.le.refl _, rfl⟩, True.intro, True.intro⟩, ⟨⟨LV.le.int (n64_of h.n), rfl⟩, ⟨LV.le.int (n64_of h.n), rfl⟩, ⟨LV.le.int (n64_of h.n), rfl⟩, True.intro, True.intro⟩, True.intro⟩, ?_⟩
  exact ⟨LV.le.refl _, rfl⟩
end Go.Proofs.Aw
namespace Go.Proofs.Aw
open Go Go.Proofs Go.RowKit
set_option maxHeartbeats 8000000
set_option maxRecDepth 100000
def MM.pcY (o : Obj) (m : MM) (i : Nat) : List LV := (m.ps i).cY o
/-- a machine, the table lying in memory -/
def MM.cY (o : Obj) (m : MM) : List LV := [lv m.clock, yv o m.quantum, yv o m.cur, yv o m.left, .sl 1 m.nF (tx m.fr), .sl 96 m.nP (m.pcY o), yv o m.next, .str m.init, .sl 2 m.nQ (wvsY o m.pq), yv o m.newPipe, .str m.inp, .bs m.fin, lv m.told, .sl 1 m.nB (tx m.bl), .sl 2 m.nW (wvsY o m.pend), yv o m.dleft, .sl 2 m.nD (wvsY o m.dirty)]
def prT (m : MM) : TL := fun i => prB (m.ps i)
def hib2 : List UInt8 := [104, 105, 98, 50]
def restL (m : MM) : List (List UInt8) := [hib2, putF (n64 m.clock) 8, Lib.itoa m.quantum, Lib.itoa m.cur, Lib.itoa m.left, Lib.itoa m.next, m.init, Lib.itoa m.newPipe, m.inp, flagB m.fin, putF (n64 m.told) 8, Lib.itoa m.dleft, rowN (wrT m.pend) m.nW, rowN (wrT m.dirty) m.nD, rowN (wrT m.pq) m.nQ, rowN (prT m) m.nP]
def restB (m : MM) : List UInt8 := rowL (restL m)
def u64R (x : Int) : Prop := 0 ≤ x ∧ x < 18446744073709551616
/-- what a machine's numbers and texts are like, so that its image is reckoned -/
structure TyM (m : MM) : Prop where
  clock : u64R m.clock
  told : u64R m.told
  quantum : i64R m.quantum
  cur : i64R m.cur
  left : i64R m.left
  next : i64R m.next
  newPipe : i64R m.newPipe
  dleft : i64R m.dleft
  P : m.nP ≤ 1000 ∧ ∀ i, i < m.nP → TyP (m.ps i)
  W : WsOk m.nW m.pend
  D : WsOk m.nD m.dirty
  Q : WsOk m.nQ m.pq
  init : m.init.length ≤ 1000000
  inp : m.inp.length ≤ 1000000
theorem rowL_len : ∀ l : List (List UInt8), (rowL l).length ≤ (l.map fun s => 2 * s.length + 1).sum
  | [] => Nat.le_refl _
  | s :: r => by
    have h1 := rowL_len r
    have h2 := lenEnc_len s.length _ (Nat.le_refl _)
    simp only [rowL, List.length_append, List.map_cons, List.sum_cons]
    omega
theorem TyM.procs {m : MM} (h : TyM m) : (rowN (prT m) m.nP).length ≤ 10000000 := by
  have h1 := rowN_bound (w := prT m) (b := 2000) m.nP fun i hi => prB_len (m.ps i) (h.P.2 i hi)
  have h2 := h.P.1
  omega
theorem restB_len {m : MM} (h : TyM m) : (restB m).length ≤ 900000000 := by
  have h1 := itoa_len h.quantum.1 h.quantum.2
  have h2 := itoa_len h.cur.1 h.cur.2
  have h3 := itoa_len h.left.1 h.left.2
  have h4 := itoa_len h.next.1 h.next.2
  have h5 := itoa_len h.newPipe.1 h.newPipe.2
  have h6 := itoa_len h.dleft.1 h.dleft.2
  have h7 := h.procs
  have h8 := h.W.len
  have h9 := h.D.len
  have h10 := h.Q.len
  have h11 := h.init
  have h12 := h.inp
  have hr := rowL_len (restL m)
  have hh : hib2.length = 4 := rfl
  simp only [restL, List.map_cons, List.map_nil, List.sum_cons, List.sum_nil, putF_len, flagB_len, hh] at hr
  show (rowL (restL m)).length ≤ _
  simp only [restL]
  omega
theorem gprocs_ct {o : Obj} (ho : PowO o) (m : MM) (h : TyM m) (hg : ∀ i, i < m.nP → NoPage (m.ps i)) : Ct Tryz.prog 49 [.sl 96 m.nP (m.pcY o), .v (.func (.func 50) #[] #[])] (.str (rowN (prT m) m.nP)) := by
  obtain ⟨hn, hf⟩ := h.P
  have hlen := h.procs
  refine Ct.enter Tryz.tab2Ok ft49 ?_
  refine ⟨Nat, fun j => ⟨[(10, iv (j : Int)), (9, iv (m.nP : Int)), (8, .sl 96 m.nP (m.pcY o)), (1, .v (.func (.func 50) #[] #[])), (5, .ls 0 j)], [(0, .arr 9 1 j (tx (prT m)))], 1, 0⟩, fun j => j ≤ m.nP ∧ True, fun j => m.nP - j, 0, ⟨Nat.zero_le _, True.intro⟩, .own (ty := 9) (sz := 1) ⟨rfl, rfl, ⟨.refl _, rfl, .refl _, rfl, .refl _, rfl, .refl _, rfl, .nil, rfl, trivial⟩, ⟨⟨_, rfl, .of (LO.le.arr rfl fun i hi => absurd hi (by omega))⟩, rfl, rfl, trivial⟩⟩, fun j hj => ⟨fun h => ?_, fun h => ?_⟩⟩
  · obtain ⟨hj, hp⟩ := hj
    have h := dT h
    have h : (j : Int) < ((m.nP : Nat) : Int) := h
    have hj : j < m.nP := by omega
    have ej := w1 hj (by omega)
    have hf1 := hf j (by omega)
    refine ⟨⟨by omega, by omega⟩, ?_⟩
    refine Ct.callC (gproc_ct ho (m.ps j) hf1 (hg j (by omega))) rfl (leL.refl _) ?_
    exact ⟨by show (j + 1) * 16 ≤ _; omega, by show j + 1 ≤ _; omega, ⟨j + 1, ⟨(by omega : j + 1 ≤ m.nP), True.intro⟩, (by omega : m.nP - (j + 1) < m.nP - j), .ren (a := 0) (b := 3) ⟨rfl, ⟨rfl, rfl, rfl, Nat.le_of_ble_eq_true rfl⟩, ⟨LV.le.int ej, rfl, LV.le.refl _, rfl, LV.le.refl _, rfl, LV.le.refl _, rfl, LV.le.refl _, rfl, trivial⟩, ⟨⟨_, rfl, LO.le.arrL rfl fun i hi => snocL (leL.refl _) i hi⟩, rfl, rfl, trivial⟩⟩⟩⟩
  · obtain ⟨hj, hp⟩ := hj
    have h := dF h
    have h : ¬ (j : Int) < ((m.nP : Nat) : Int) := h
    have hn : j = m.nP := by have : j ≤ m.nP := hj; omega
    subst hn
    refine Ct.callF (row_ct m.nP (prT m) (by omega) (by omega)) rfl (leL.refl _) rfl ?_
    exact ⟨LV.le.refl _, rfl⟩
end Go.Proofs.Aw
namespace Go.Proofs.Aw
open Go Go.Proofs Go.RowKit
set_option maxHeartbeats 4000000
set_option maxRecDepth 100000
/-- operands that stand for texts, in their order -/
def evs (st : St) : Nat → List (Nat × Operand) → List (List UInt8) → Prop
  | _, [], W => W = []
  | k, (i, o) :: r, W => ∃ w W', W = w :: W' ∧ i = k ∧ evO st o = .str w ∧ evs st (k + 1) r W'
theorem nth_arrFs (e : Nat) : ∀ (n i j : Nat), j < n → nth (arrFs e 1 i n) j = some (i + j, e)
  | 0, i, j, h => by omega
  | n + 1, i, 0, _ => by simp [arrFs, nth]
  | n + 1, i, j + 1, h => by
    simp only [arrFs, nth]
    rw [nth_arrFs e n (i + 1) j (by omega)]
    congr 2; omega
theorem anys_len : ∀ n, (anys n).length = n
  | 0 => rfl
  | n + 1 => by simp [anys, anys_len n]
theorem writeL_at (pre : List LV) (x : LV) (n : Nat) : writeL (pre ++ anys (n + 1)) pre.length [x] = (pre ++ [x]) ++ anys n := by
  unfold writeL
  rw [List.take_left', List.drop_append]
  · simp [anys]
  · rfl
theorem fillA_texts {T : Tab} {e : Nat} {te : TI} (he : T.find e = some te) (hs : te.size = 1) {st : St} (n : Nat) : ∀ (ps : List (Nat × Operand)) (W : List (List UInt8)) (pre : List LV), n = pre.length + W.length → evs st pre.length ps W → fillA T (arrFs e 1 0 n) st (pre ++ anys W.length) ps = some (pre ++ W.map LV.str)
  | [], W, pre, hn, h => by rw [show W = [] from h]; rfl
  | (i, o) :: r, W, pre, hn, h => by
    obtain ⟨w, W', rfl, rfl, h1, h2⟩ := h
    have hn' : n = pre.length + (W'.length + 1) := hn
    simp only [fillA]
    rw [nth_arrFs e n 0 pre.length (by omega), Nat.zero_add]
    simp only [he, h1, cellsA, hs, List.length_cons, List.length_nil]
    have hb : Nat.ble (pre.length + (0 + 1)) (pre ++ anys (W'.length + 1)).length = true := Nat.ble_eq_true_of_le (by rw [List.length_append, anys_len]; omega)
    simp only [hb, Nat.beq_refl, Bool.and_self]
    rw [writeL_at]
    have := fillA_texts he hs n r W' (pre ++ [.str w]) (by rw [List.length_append]; show n = pre.length + 1 + W'.length; omega) (by rw [List.length_append]; exact h2)
    rw [this]
    simp
theorem underL_strs : ∀ W : List (List UInt8), underL 0 (W.map LV.str) = true
  | [] => rfl
  | w :: W => by simp [underL, LV.under, underL_strs W]
theorem stepF_texts {P : Program} {T : Tab} {ops : List Oper} {sz : Nat} {o : Oper} {ms : List Nat} {base : List (Nat × LV)} {vals : List LV} {i : Nat} {s : Hp} {t e n : Nat} {parts : Array (Nat × Operand)} {ti te : TI} (W : List (List UInt8))
    (hg : o.guard = none) (ho : o.op = .buildSlice t n parts) (hti : T.find t = some ti) (hk : ti.k = .slice e) (he : T.find e = some te) (hs : te.size = 1) (hn : n = W.length) (hl : Nat.ble n 1000 = true)
    (hev : evs (stAt ops ms base vals i s) 0 parts.toList W) : stepF P T ops sz o (.ls s.2 n) ((s.2, .arr e 1 n (fun i => ((W.map LV.str).drop (i * 1)).take 1)) :: s.1, s.2 + 1) ms base vals i s := by
  rw [stepF_eq]
  have hf := fillA_texts he hs (st := stAt ops ms base vals i s) n parts.toList W [] (by simp [hn]) hev
  simp only [List.nil_append] at hf
  have hl' := Nat.le_of_ble_eq_true hl
  have hb : Nat.ble (n * 1) 16777216 = true := Nat.ble_eq_true_of_le (by omega)
  have hu := underL_strs W
  have hlen : (W.map LV.str).length = n * 1 := by simp [hn]
  have h01 : Nat.blt 0 1 = true := rfl
  simp only [stepG, guardA, hg, stepR, opA, ho, buildSliceA, hti, hk, he, hs, hb, h01, Bool.and_self]
  rw [show n * 1 = W.length by omega, hf]
  simp only [hu, List.length_map, Nat.beq_refl, Bool.and_self, frc_eq]
  exact ⟨LV.le.refl _, rfl⟩
theorem drawGo_texts {P : Program} {T : Tab} {ops : List Oper} {sz : Nat} {o : Oper} {r : List Oper} {ms ch : List Nat} {base : List (Nat × LV)} {fin : List LV → List Hp → Prop} {vals : List LV} {hps : List Hp} {i : Nat} {s : Hp} {t e n : Nat} {parts : Array (Nat × Operand)} {ti te : TI} (W : List (List UInt8))
    (hc : isCh ch i = true) (hg : o.guard = none) (ho : o.op = .buildSlice t n parts) (hti : T.find t = some ti) (hk : ti.k = .slice e) (he : T.find e = some te) (hs : te.size = 1) (hn : n = W.length) (hl : Nat.ble n 1000 = true)
    (hev : evs (stAt ops ms base vals i s) 0 parts.toList W)
    (h : frcOs ((s.2, .arr e 1 n (fun i => ((W.map LV.str).drop (i * 1)).take 1)) :: s.1) fun a => snocK vals (.ls s.2 n) fun vals => snocK hps (a, s.2 + 1) fun hps => drawGo P T ops sz ms ch base fin (i + 1) r (a, s.2 + 1) vals hps) :
    drawGo P T ops sz ms ch base fin i (o :: r) s vals hps := by
  unfold drawGo
  rw [hc]
  exact ⟨_, _, stepF_texts W hg ho hti hk he hs hn hl hev, h⟩
theorem texts_at (W : List (List UInt8)) (i : Nat) (h : i < W.length) : ((W.map LV.str).drop (i * 1)).take 1 = tx (atL W) i := by
  have e : (W.map LV.str)[i]? = some (.str (atL W i)) := by
    rw [List.getElem?_map, List.getElem?_eq_getElem h]
    simp [atL, List.getD, List.getElem?_eq_getElem h]
  have hl : i < (W.map LV.str).length := by simpa using h
  have e2 : (W.map LV.str)[i] = .str (atL W i) := (List.getElem?_eq_some_iff.1 e).2
  rw [Nat.mul_one, List.drop_eq_getElem_cons hl, e2]
  rfl
end Go.Proofs.Aw
namespace Go.Proofs.Aw
open Go Go.Proofs Go.RowKit
set_option maxHeartbeats 8000000
set_option maxRecDepth 100000
theorem rrest_ct (m : MM) (h : TyM m) : Ct Tryz.prog 53 [.agg m.c] (.str (restB m)) := by
  have e4 : rowN (atL (restL m)) 16 = restB m := rowN_list (restL m)
  have hb := restB_len h
  obtain ⟨hn, hf⟩ := h.P
  have hlen := h.procs
  refine Ct.enterA Tryz.tab2Ok ft53 fun org => ?_
  refine AW.step Tryz.tab2Ok rfl ?_
  refine AW.step Tryz.tab2Ok rfl ?_
  refine AW.cut Tryz.tab2Ok True ⟨[(1, .lp 0 0), (3, .ls 1 m.nP)], [(1, .arr 9 1 m.nP (tx (prT m))), (0, .box 30 m.c)], 2, 0⟩ rfl ?_ fun _ => ?_
  · refine ⟨Nat, fun j => ⟨[(9, iv (j : Int)), (8, iv (m.nP : Int)), (1, .lp 0 0), (3, .ls 1 j)], [(1, .arr 9 1 j (tx (prT m))), (0, .box 30 m.c)], 2, 0⟩, fun j => j ≤ m.nP ∧ True, fun j => m.nP - j, 0, ⟨Nat.zero_le _, True.intro⟩, .le ⟨rfl, ⟨rfl, Nat.le_of_ble_eq_true rfl⟩, ⟨LV.le.refl _, rfl, LV.le.refl _, rfl, LV.le.refl _, rfl, LV.le.refl _, rfl, trivial⟩, ⟨⟨_, rfl, LO.le.arr rfl fun i hi => absurd hi (by omega)⟩, rfl, rfl, ⟨_, rfl, LO.le.refl _⟩, rfl, rfl, trivial⟩⟩, fun j hj => ⟨fun h => ?_, fun h => ?_⟩⟩
    · obtain ⟨hj, hp⟩ := hj
      have h := dT h
      have h : (j : Int) < ((m.nP : Nat) : Int) := h
      have hj : j < m.nP := by omega
      have ej := w1 hj (by omega)
      have hf1 := hf j (by omega)
      refine ⟨⟨by omega, by omega⟩, ?_⟩
      refine Ct.callC (rproc_ct (m.ps j) hf1) rfl (leL.refl _) ?_
      exact ⟨by show (j + 1) * 16 ≤ _; omega, by show j + 1 ≤ _; omega, ⟨j + 1, ⟨(by omega : j + 1 ≤ m.nP), True.intro⟩, (by omega : m.nP - (j + 1) < m.nP - j), .ren (a := 1) (b := 3) ⟨rfl, ⟨rfl, rfl, rfl, Nat.le_of_ble_eq_true rfl⟩, ⟨LV.le.int ej, rfl, LV.le.refl _, rfl, LV.le.refl _, rfl, LV.le.refl _, rfl, trivial⟩, ⟨⟨_, rfl, LO.le.arrL rfl fun i hi => snocL (leL.refl _) i hi⟩, rfl, rfl, ⟨_, rfl, LO.le.refl _⟩, rfl, rfl, trivial⟩⟩⟩⟩
    · obtain ⟨hj, hp⟩ := hj
      have h := dF h
      have h : ¬ (j : Int) < ((m.nP : Nat) : Int) := h
      have hn : j = m.nP := by have : j ≤ m.nP := hj; omega
      subst hn
      exact ⟨True.intro, .le ⟨rfl, ⟨rfl, Nat.le_of_ble_eq_true rfl⟩, ⟨LV.le.refl _, rfl, LV.le.refl _, rfl, trivial⟩, ⟨⟨_, rfl, LO.le.refl _⟩, rfl, rfl, ⟨_, rfl, LO.le.refl _⟩, rfl, rfl, trivial⟩⟩⟩
  refine AW.run Tryz.tab2Ok rfl ?_
  refine DrawA.run Tryz.tab2Ok Tryz.mixed [0, 1, 3, 0, 8, 31, 0, 64, 255, 0, 512, 2047, 0, 4096, 16383, 0, 32768, 0, 131072, 425983, 0, 1048576, 0, 4194304, 13533183, 0, 33554432, 130973695, 0, 268435456, 805306368, 2144239615, 0, 4294967296, 12884901888, 34356494335, 0, 68719476736, 274874662911, 0, 549755813888, 2199020011519, 0, 8796089778175, 17592186044415, 35184372088831, 70368744177663] [44] rfl ?_
  refine ⟨_, ⟨LV.le.refl _, rfl⟩, ?_⟩
  refine ⟨lv ((n64 m.clock : Nat) : Int), ⟨LV.le.int (n64_of h.clock), rfl⟩, ?_⟩
  refine ⟨_, Ct.callC (rput_ct (n64 m.clock) 8 (n64_lt _) (by omega)) rfl (leL.refl _) ⟨LV.le.refl _, rfl⟩, ?_⟩
  refine ⟨_, ⟨LV.le.refl _, rfl⟩, ?_⟩
  refine ⟨_, ⟨LV.le.refl _, rfl⟩, ?_⟩
  refine ⟨_, Ct.callC (rnum_ct m.quantum h.quantum.1 h.quantum.2) rfl (leL.refl _) ⟨LV.le.refl _, rfl⟩, ?_⟩
  refine ⟨_, ⟨LV.le.refl _, rfl⟩, ?_⟩
  refine ⟨_, ⟨LV.le.refl _, rfl⟩, ?_⟩
  refine ⟨_, Ct.callC (rnum_ct m.cur h.cur.1 h.cur.2) rfl (leL.refl _) ⟨LV.le.refl _, rfl⟩, ?_⟩
  refine ⟨_, ⟨LV.le.refl _, rfl⟩, ?_⟩
  refine ⟨_, ⟨LV.le.refl _, rfl⟩, ?_⟩
  refine ⟨_, Ct.callC (rnum_ct m.left h.left.1 h.left.2) rfl (leL.refl _) ⟨LV.le.refl _, rfl⟩, ?_⟩
  refine ⟨_, ⟨LV.le.refl _, rfl⟩, ?_⟩
  refine ⟨_, ⟨LV.le.refl _, rfl⟩, ?_⟩
  refine ⟨_, Ct.callC (rnum_ct m.next h.next.1 h.next.2) rfl (leL.refl _) ⟨LV.le.refl _, rfl⟩, ?_⟩
  refine ⟨_, ⟨LV.le.refl _, rfl⟩, ?_⟩
  refine ⟨_, ⟨LV.le.refl _, rfl⟩, ?_⟩
  refine ⟨_, ⟨LV.le.refl _, rfl⟩, ?_⟩
  refine ⟨_, ⟨LV.le.refl _, rfl⟩, ?_⟩
  refine ⟨_, Ct.callC (rnum_ct m.newPipe h.newPipe.1 h.newPipe.2) rfl (leL.refl _) ⟨LV.le.refl _, rfl⟩, ?_⟩
  refine ⟨_, ⟨LV.le.refl _, rfl⟩, ?_⟩
  refine ⟨_, ⟨LV.le.refl _, rfl⟩, ?_⟩
  refine ⟨_, ⟨LV.le.refl _, rfl⟩, ?_⟩
  refine ⟨_, ⟨LV.le.refl _, rfl⟩, ?_⟩
  refine ⟨_, Ct.callC (rflag_ct m.fin) rfl (leL.refl _) ⟨LV.le.refl _, rfl⟩, ?_⟩
  refine ⟨_, ⟨LV.le.refl _, rfl⟩, ?_⟩
  refine ⟨lv ((n64 m.told : Nat) : Int), ⟨LV.le.int (n64_of h.told), rfl⟩, ?_⟩
  refine ⟨_, Ct.callC (rput_ct (n64 m.told) 8 (n64_lt _) (by omega)) rfl (leL.refl _) ⟨LV.le.refl _, rfl⟩, ?_⟩
  refine ⟨_, ⟨LV.le.refl _, rfl⟩, ?_⟩
  refine ⟨_, ⟨LV.le.refl _, rfl⟩, ?_⟩
  refine ⟨_, ⟨LV.le.refl _, rfl⟩, ?_⟩
  refine ⟨_, Ct.callC (rnum_ct m.dleft h.dleft.1 h.dleft.2) rfl (leL.refl _) ⟨LV.le.refl _, rfl⟩, ?_⟩
  refine ⟨_, ⟨LV.le.refl _, rfl⟩, ?_⟩
  refine ⟨_, ⟨LV.le.refl _, rfl⟩, ?_⟩
  refine ⟨_, ⟨LV.le.refl _, rfl⟩, ?_⟩
  refine ⟨_, Ct.callC (rwrites_ct m.nW m.pend h.W) rfl (leL.refl _) ⟨LV.le.refl _, rfl⟩, ?_⟩
  refine ⟨_, ⟨LV.le.refl _, rfl⟩, ?_⟩
  refine ⟨_, ⟨LV.le.refl _, rfl⟩, ?_⟩
  refine ⟨_, Ct.callC (rwrites_ct m.nD m.dirty h.D) rfl (leL.refl _) ⟨LV.le.refl _, rfl⟩, ?_⟩
  refine ⟨_, ⟨LV.le.refl _, rfl⟩, ?_⟩
  refine ⟨_, ⟨LV.le.refl _, rfl⟩, ?_⟩
  refine ⟨_, Ct.callC (rpipes_ct m.nQ m.pq h.Q) rfl (leL.refl _) ⟨LV.le.refl _, rfl⟩, ?_⟩
  refine ⟨_, ⟨LV.le.refl _, rfl⟩, ?_⟩
  refine ⟨_, Ct.callF (rrow_ct m.nP (prT m) (by omega) (by omega)) rfl (leL.refl _) rfl ⟨LV.le.refl _, rfl⟩, ?_⟩
  rw [snocK_eq]
  refine drawGo_texts (restL m) rfl rfl rfl rfl rfl rfl rfl rfl rfl ⟨_, _, rfl, rfl, rfl, ⟨_, _, rfl, rfl, rfl, ⟨_, _, rfl, rfl, rfl, ⟨_, _, rfl, rfl, rfl, ⟨_, _, rfl, rfl, rfl, ⟨_, _, rfl, rfl, rfl, ⟨_, _, rfl, rfl, rfl, ⟨_, _, rfl, rfl, rfl, ⟨_, _, rfl, rfl, rfl, ⟨_, _, rfl, rfl, rfl, ⟨_, _, rfl, rfl, rfl, ⟨_, _, rfl, rfl, rfl, ⟨_, _, rfl, rfl, rfl, ⟨_, _, rfl, rfl, rfl, ⟨_, _, rfl, rfl, rfl, ⟨_, _, rfl, rfl, rfl, rfl⟩⟩⟩⟩⟩⟩⟩⟩⟩⟩⟩⟩⟩⟩⟩⟩ ?_
  refine ⟨.str (restB m), Ct.callF (rrow_ct 16 (atL (restL m)) (by omega) (by rw [e4]; omega)) rfl ⟨_, _, rfl, LV.le.sl rfl fun i hi => texts_at (restL m) i hi, rfl⟩ rfl ⟨LV.le.eq (congrArg LV.str e4), rfl⟩, ?_⟩
  refine ⟨_, ⟨LV.le.refl _, rfl⟩, ?_⟩
  refine ⟨True.intro, ?_⟩
  exact ⟨LV.le.refl _, rfl⟩
end Go.Proofs.Aw
namespace Go.Proofs.Aw
open Go Go.Proofs Go.RowKit
set_option maxHeartbeats 8000000
set_option maxRecDepth 100000
/-- the image of a machine that may not be -/
def imgZ : LV := .agg [.v (.slice none 0 0), .v (.slice none 0 0), .str []]
def imgM (m : MM) : LV := imgL m.nF m.nB m.fr m.bl (restB m)
theorem rraw_ct (m : MM) (h : TyM m) : Ct Tryz.prog 77 [.agg m.c] (imgM m) := by
  refine Ct.enter Tryz.tab2Ok ft77 ?_
  refine DrawA.run Tryz.tab2Ok Tryz.mixed [0, 1, 0, 4, 12, 0, 32, 127, 255] [8] rfl ?_
  refine ⟨_, ⟨LV.le.refl _, rfl⟩, ?_⟩
  refine ⟨_, ⟨LV.le.refl _, rfl⟩, ?_⟩
  refine ⟨_, ⟨LV.le.refl _, rfl⟩, ?_⟩
  refine ⟨_, ⟨LV.le.refl _, rfl⟩, ?_⟩
  refine ⟨_, ⟨LV.le.refl _, rfl⟩, ?_⟩
  refine ⟨.agg m.c, ⟨LV.le.refl _, rfl⟩, ?_⟩
  refine ⟨_, Ct.callC (rrest_ct m h) rfl (leL.refl _) ⟨LV.le.refl _, rfl⟩, ?_⟩
  refine ⟨_, ⟨LV.le.refl _, rfl⟩, ?_⟩
  refine ⟨_, _, ⟨LV.le.refl _, rfl⟩, ?_⟩
  refine ⟨True.intro, ?_⟩
  exact ⟨LV.le.refl _, rfl⟩
theorem rof_ok (m : MM) (hm : Fits m) (h : TyM m) (hc : chkE m = 0) : Ct Tryz.prog 57 [.agg m.c] (imgM m) := by
  refine Ct.enter Tryz.tab2Ok ft57 ?_
  refine Ct.callC (rcheck_ct m hm) rfl (leL.refl _) ?_
  refine ⟨fun a => absurd hc (bnT a), fun a => ?_⟩
  refine Ct.callC (rraw_ct m h) rfl (leL.refl _) ?_
  exact ⟨LV.le.refl _, rfl⟩
theorem rof_bad (m : MM) (hm : Fits m) (hc : chkE m ≠ 0) : Ct Tryz.prog 57 [.agg m.c] imgZ := by
  refine Ct.enter Tryz.tab2Ok ft57 ?_
  refine Ct.callC (rcheck_ct m hm) rfl (leL.refl _) ?_
  refine ⟨fun a => ?_, fun a => absurd (bnF a) hc⟩
  exact ⟨LV.le.refl _, rfl⟩
theorem PV.cY_le (o : Obj) (p : PV) : leL (p.cY o) p.c := ⟨_, _, rfl, yv_le _ _, _, _, rfl, yv_le _ _, _, _, rfl, yv_le _ _, 
  _, _, rfl, LV.le.refl _, _, _, rfl, LV.le.refl _, _, _, rfl, LV.le.refl _, _, _, rfl, LV.le.refl _, _, _, rfl, LV.le.refl _, _, _, rfl, LV.le.refl _, _, _, rfl, LV.le.refl _, _, _, rfl, LV.le.refl _, _, _, rfl, LV.le.refl _, _, _, rfl, LV.le.refl _, _, _, rfl, LV.le.refl _, _, _, rfl, LV.le.refl _, _, _, rfl, LV.le.refl _, _, _, rfl, LV.le.refl _, _, _, rfl, LV.le.refl _, _, _, rfl, LV.le.refl _, _, _, rfl, LV.le.refl _, _, _, rfl, LV.le.refl _, _, _, rfl, LV.le.refl _, _, _, rfl, LV.le.refl _, _, _, rfl, LV.le.refl _, _, _, rfl, LV.le.refl _, _, _, rfl, LV.le.refl _, _, _, rfl, LV.le.refl _, _, _, rfl, LV.le.refl _, _, _, rfl, LV.le.refl _, _, _, rfl, LV.le.refl _, _, _, rfl, LV.le.refl _, _, _, rfl, LV.le.refl _, _, _, rfl, LV.le.refl _, _, _, rfl, LV.le.refl _, _, _, rfl, LV.le.refl _, _, _, rfl, LV.le.refl _, _, _, rfl, LV.le.refl _, _, _, rfl, LV.le.refl _, _, _, rfl, LV.le.refl _, _, _, rfl, LV.le.refl _, _, _, rfl, LV.le.refl _, _, _, rfl, LV.le.refl _, _, _, rfl, LV.le.refl _, _, _, rfl, LV.le.refl _, _, _, rfl, LV.le.refl _, _, _, rfl, LV.le.refl _, _, _, rfl, LV.le.refl _, _, _, rfl, LV.le.refl _, _, _, rfl, LV.le.refl _, _, _, rfl, LV.le.refl _, _, _, rfl, LV.le.refl _, _, _, rfl, LV.le.refl _, _, _, rfl, LV.le.refl _, _, _, rfl, LV.le.refl _, _, _, rfl, LV.le.refl _, _, _, rfl, LV.le.refl _, _, _, rfl, LV.le.refl _, _, _, rfl, LV.le.refl _, _, _, rfl, LV.le.refl _, _, _, rfl, LV.le.refl _, _, _, rfl, LV.le.refl _, _, _, rfl, LV.le.refl _, _, _, rfl, LV.le.refl _, _, _, rfl, LV.le.refl _, _, _, rfl, LV.le.refl _, _, _, rfl, LV.le.refl _, _, _, rfl, LV.le.refl _, _, _, rfl, LV.le.refl _, _, _, rfl, LV.le.refl _, _, _, rfl, LV.le.refl _, _, _, rfl, LV.le.refl _, _, _, rfl, LV.le.refl _, _, _, rfl, LV.le.refl _, _, _, rfl, LV.le.refl _, _, _, rfl, LV.le.refl _, _, _, rfl, LV.le.refl _, _, _, rfl, LV.le.refl _, _, _, rfl, LV.le.refl _, _, _, rfl, LV.le.refl _, _, _, rfl, LV.le.refl _, _, _, rfl, LV.le.refl _, _, _, rfl, LV.le.refl _, _, _, rfl, LV.le.refl _, _, _, rfl, LV.le.refl _, _, _, rfl, LV.le.refl _, _, _, rfl, LV.le.refl _, _, _, rfl, LV.le.refl _, _, _, rfl, LV.le.refl _, _, _, rfl, LV.le.refl _, _, _, rfl, LV.le.refl _, _, _, rfl, LV.le.refl _, _, _, rfl, LV.le.refl _, _, _, rfl, LV.le.refl _, _, _, rfl, LV.le.refl _, _, _, rfl, yv_le _ _, _, _, rfl, LV.le.refl _, rfl⟩
theorem wvsY_le (o : Obj) (f : Nat → Int × List UInt8) (i : Nat) : leL (wvsY o f i) (wvs f i) := ⟨_, _, rfl, yv_le _ _, _, _, rfl, LV.le.refl _, rfl⟩
theorem MM.cY_le (o : Obj) (m : MM) : leL (m.cY o) m.c :=
  ⟨_, _, rfl, LV.le.refl _, _, _, rfl, yv_le _ _, _, _, rfl, yv_le _ _, _, _, rfl, yv_le _ _, _, _, rfl, LV.le.refl _, _, _, rfl, LV.le.slL rfl fun i _ => PV.cY_le o (m.ps i), _, _, rfl, yv_le _ _, _, _, rfl, LV.le.refl _, _, _, rfl, LV.le.slL rfl fun i _ => wvsY_le o m.pq i, _, _, rfl, yv_le _ _, _, _, rfl, LV.le.refl _, _, _, rfl, LV.le.refl _, _, _, rfl, LV.le.refl _, _, _, rfl, LV.le.refl _, _, _, rfl, LV.le.slL rfl fun i _ => wvsY_le o m.pend i, _, _, rfl, yv_le _ _, _, _, rfl, LV.le.slL rfl fun i _ => wvsY_le o m.dirty i, rfl⟩
theorem MM.aY_le (o : Obj) (m : MM) : LV.le (.agg (m.cY o)) (.agg m.c) := LV.le.agg (m.cY_le o)
theorem gof_bad (o : Obj) (m : MM) (hm : Fits m) (hc : chkE m ≠ 0) : Ct Tryz.prog 12 [.agg (m.cY o)] imgZ := by
  refine Ct.enter Tryz.tab2Ok ft12 ?_
  refine Ct.callC (check_ct m hm) rfl ⟨_, _, rfl, m.aY_le o, rfl⟩ ?_
  refine ⟨fun a => ?_, fun a => absurd (bnF a) hc⟩
  exact ⟨LV.le.refl _, rfl⟩
theorem gof_ok {o : Obj} (ho : PowO o) (m : MM) (hm : Fits m) (h : TyM m) (hg : ∀ i, i < m.nP → NoPage (m.ps i)) (hc : chkE m = 0) : Ct Tryz.prog 12 [.agg (m.cY o)] (imgM m) := by
  have e4 : rowN (atL (restL m)) 16 = restB m := rowN_list (restL m)
  have hb := restB_len h
  have hF := hm.F
  have hB := hm.B
  refine Ct.enter Tryz.tab2Ok ft12 ?_
  refine Ct.callC (check_ct m hm) rfl ⟨_, _, rfl, m.aY_le o, rfl⟩ ?_
  refine ⟨fun a => absurd hc (bnT a), fun a => ?_⟩
  refine DrawA.run Tryz.tab2Ok Tryz.mixed [0, 1, 3, 0, 8, 31, 0, 64, 255, 0, 512, 2047, 0, 4096, 16383, 0, 32768, 0, 131072, 425983, 0, 1048576, 0, 4194304, 13533183, 0, 33554432, 130973695, 0, 268435456, 805306368, 2144239615, 0, 4294967296, 12884901888, 34356494335, 0, 68719476736, 274874662911, 0, 549755813888, 2199020011519, 0, 4398046511104, 17592182800383, 35184372088831, 70368744177663, 140737488355327] [45] rfl ?_
  refine ⟨_, ⟨LV.le.refl _, rfl⟩, ?_⟩
  refine ⟨lv ((n64 m.clock : Nat) : Int), ⟨LV.le.int (n64_of h.clock), rfl⟩, ?_⟩
  refine ⟨_, Ct.callC (put_ct (n64 m.clock) 8 (n64_lt _) (by omega)) rfl (leL.refl _) ⟨LV.le.refl _, rfl⟩, ?_⟩
  refine ⟨_, ⟨LV.le.refl _, rfl⟩, ?_⟩
  refine ⟨_, ⟨LV.le.refl _, rfl⟩, ?_⟩
  refine ⟨_, Ct.callC (dec_ct ho m.quantum h.quantum.1 h.quantum.2) rfl (leL.refl _) ⟨LV.le.refl _, rfl⟩, ?_⟩
  refine ⟨_, ⟨LV.le.refl _, rfl⟩, ?_⟩
  refine ⟨_, ⟨LV.le.refl _, rfl⟩, ?_⟩
  refine ⟨_, Ct.callC (dec_ct ho m.cur h.cur.1 h.cur.2) rfl (leL.refl _) ⟨LV.le.refl _, rfl⟩, ?_⟩
  refine ⟨_, ⟨LV.le.refl _, rfl⟩, ?_⟩
  refine ⟨_, ⟨LV.le.refl _, rfl⟩, ?_⟩
  refine ⟨_, Ct.callC (dec_ct ho m.left h.left.1 h.left.2) rfl (leL.refl _) ⟨LV.le.refl _, rfl⟩, ?_⟩
  refine ⟨_, ⟨LV.le.refl _, rfl⟩, ?_⟩
  refine ⟨_, ⟨LV.le.refl _, rfl⟩, ?_⟩
  refine ⟨_, Ct.callC (dec_ct ho m.next h.next.1 h.next.2) rfl (leL.refl _) ⟨LV.le.refl _, rfl⟩, ?_⟩
  refine ⟨_, ⟨LV.le.refl _, rfl⟩, ?_⟩
  refine ⟨_, ⟨LV.le.refl _, rfl⟩, ?_⟩
  refine ⟨_, ⟨LV.le.refl _, rfl⟩, ?_⟩
  refine ⟨_, ⟨LV.le.refl _, rfl⟩, ?_⟩
  refine ⟨_, Ct.callC (dec_ct ho m.newPipe h.newPipe.1 h.newPipe.2) rfl (leL.refl _) ⟨LV.le.refl _, rfl⟩, ?_⟩
  refine ⟨_, ⟨LV.le.refl _, rfl⟩, ?_⟩
  refine ⟨_, ⟨LV.le.refl _, rfl⟩, ?_⟩
  refine ⟨_, ⟨LV.le.refl _, rfl⟩, ?_⟩
  refine ⟨_, ⟨LV.le.refl _, rfl⟩, ?_⟩
  refine ⟨_, Ct.callC (flag_ct m.fin) rfl (leL.refl _) ⟨LV.le.refl _, rfl⟩, ?_⟩
  refine ⟨_, ⟨LV.le.refl _, rfl⟩, ?_⟩
  refine ⟨lv ((n64 m.told : Nat) : Int), ⟨LV.le.int (n64_of h.told), rfl⟩, ?_⟩
  refine ⟨_, Ct.callC (put_ct (n64 m.told) 8 (n64_lt _) (by omega)) rfl (leL.refl _) ⟨LV.le.refl _, rfl⟩, ?_⟩
  refine ⟨_, ⟨LV.le.refl _, rfl⟩, ?_⟩
  refine ⟨_, ⟨LV.le.refl _, rfl⟩, ?_⟩
  refine ⟨_, ⟨LV.le.refl _, rfl⟩, ?_⟩
  refine ⟨_, Ct.callC (dec_ct ho m.dleft h.dleft.1 h.dleft.2) rfl (leL.refl _) ⟨LV.le.refl _, rfl⟩, ?_⟩
  refine ⟨_, ⟨LV.le.refl _, rfl⟩, ?_⟩
  refine ⟨_, ⟨LV.le.refl _, rfl⟩, ?_⟩
  refine ⟨_, ⟨LV.le.refl _, rfl⟩, ?_⟩
  refine ⟨_, Ct.callC (gwrites_ct ho m.nW m.pend h.W) rfl (leL.refl _) ⟨LV.le.refl _, rfl⟩, ?_⟩
  refine ⟨_, ⟨LV.le.refl _, rfl⟩, ?_⟩
  refine ⟨_, ⟨LV.le.refl _, rfl⟩, ?_⟩
  refine ⟨_, Ct.callC (gwrites_ct ho m.nD m.dirty h.D) rfl (leL.refl _) ⟨LV.le.refl _, rfl⟩, ?_⟩
  refine ⟨_, ⟨LV.le.refl _, rfl⟩, ?_⟩
  refine ⟨_, ⟨LV.le.refl _, rfl⟩, ?_⟩
  refine ⟨_, Ct.callC (gpipes_ct ho m.nQ m.pq h.Q) rfl (leL.refl _) ⟨LV.le.refl _, rfl⟩, ?_⟩
  refine ⟨_, ⟨LV.le.refl _, rfl⟩, ?_⟩
  refine ⟨_, ⟨LV.le.refl _, rfl⟩, ?_⟩
  refine ⟨_, Ct.callC (gprocs_ct ho m h hg) rfl (leL.refl _) ⟨LV.le.refl _, rfl⟩, ?_⟩
  rw [snocK_eq]
  refine drawGo_texts (restL m) rfl rfl rfl rfl rfl rfl rfl rfl rfl ⟨_, _, rfl, rfl, rfl, ⟨_, _, rfl, rfl, rfl, ⟨_, _, rfl, rfl, rfl, ⟨_, _, rfl, rfl, rfl, ⟨_, _, rfl, rfl, rfl, ⟨_, _, rfl, rfl, rfl, ⟨_, _, rfl, rfl, rfl, ⟨_, _, rfl, rfl, rfl, ⟨_, _, rfl, rfl, rfl, ⟨_, _, rfl, rfl, rfl, ⟨_, _, rfl, rfl, rfl, ⟨_, _, rfl, rfl, rfl, ⟨_, _, rfl, rfl, rfl, ⟨_, _, rfl, rfl, rfl, ⟨_, _, rfl, rfl, rfl, ⟨_, _, rfl, rfl, rfl, rfl⟩⟩⟩⟩⟩⟩⟩⟩⟩⟩⟩⟩⟩⟩⟩⟩ ?_
  refine ⟨.str (restB m), Ct.callF (row_ct 16 (atL (restL m)) (by omega) (by rw [e4]; omega)) rfl ⟨_, _, rfl, LV.le.sl rfl fun i hi => texts_at (restL m) i hi, rfl⟩ rfl ⟨LV.le.eq (congrArg LV.str e4), rfl⟩, ?_⟩
  refine ⟨_, ⟨LV.le.refl _, rfl⟩, ?_⟩
  refine ⟨True.intro, ?_⟩
  refine DrawA.run Tryz.tab2Ok Tryz.mixed [0, 1, 3, 0, 8, 24, 63, 0, 255, 511] [2, 6, 9] rfl ?_
  refine ⟨_, ⟨LV.le.refl _, rfl⟩, ?_⟩
  refine ⟨_, ⟨LV.le.refl _, rfl⟩, ?_⟩
  refine ⟨_, _, CtN.call (cloneS_ct m.nF m.fr (by omega)) rfl ⟨LV.le.refl _, rfl⟩, ?_⟩
  refine ⟨_, ⟨LV.le.refl _, rfl⟩, ?_⟩
  refine ⟨_, ⟨LV.le.refl _, rfl⟩, ?_⟩
  refine ⟨_, ⟨LV.le.refl _, rfl⟩, ?_⟩
  refine ⟨_, _, CtN.call (cloneS_ct m.nB m.bl (by omega)) rfl ⟨LV.le.refl _, rfl⟩, ?_⟩
  refine ⟨_, ⟨LV.le.refl _, rfl⟩, ?_⟩
  refine ⟨_, ⟨LV.le.refl _, rfl⟩, ?_⟩
  refine ⟨_, _, ⟨LV.le.refl _, rfl⟩, ?_⟩
  refine ⟨⟨⟨⟨LV.le.refl _, rfl⟩, True.intro, True.intro⟩, ⟨⟨LV.le.refl _, rfl⟩, True.intro, True.intro⟩, ⟨⟨LV.le.refl _, rfl⟩, True.intro, True.intro⟩, ⟨⟨LV.le.refl _, rfl⟩, ⟨LV.le.refl _, rfl⟩, True.intro, True.intro⟩, True.intro⟩, ?_⟩
  exact ⟨LV.le.refl _, rfl⟩
end Go.Proofs.Aw
