/- A PART OF THE PROOF: an abstract run of the loaded code over value trees, and the functions walked by it. No condition of its own. -/
import Derived.Test.YtanmknmlphkeaaaGreatDoorZK3
import Derived.Test.YtanmknmlphkeaaaGreatDoorZF3
namespace Go.Proofs.Aw
open Go Go.Proofs Go.RowKit
set_option maxHeartbeats 8000000
set_option maxRecDepth 100000
theorem ble16 {V : Nat → Int} {x : LV} {a : Nat} (h : a < 16) : Nat.ble (a + [x].length) (L16 V).length = true := by
  rw [Nat.ble_eq]; show a + 1 ≤ 16; omega
def half1 (V : Nat → Int) (a b : Nat) (n : Int) : Nat → Int := updV V a (IntKind.u32.wrap (V a + IntKind.u32.wrap (V b + n)))
def half2 (V : Nat → Int) (a b d : Nat) (n td : Int) : Nat → Int := updV (half1 V a b n) d (rotF (bitsA .xor .u32 (half1 V a b n d) (half1 V a b n a)) (IntKind.i64.wrap (0 - td)))
def half3 (V : Nat → Int) (a b c d : Nat) (n td : Int) : Nat → Int := updV (half2 V a b d n td) c (IntKind.u32.wrap (half2 V a b d n td c + half2 V a b d n td d))
def half4 (V : Nat → Int) (a b c d : Nat) (n td tb : Int) : Nat → Int := updV (half3 V a b c d n td) b (rotF (bitsA .xor .u32 (half3 V a b c d n td b) (half3 V a b c d n td c)) (IntKind.i64.wrap (0 - tb)))
theorem half_ca (env : List (Nat × LV)) (low : Nat) (Q R F M V : Nat → Int) (a b c d : Nat) (n td tb : Int) (ha : a < 16) (hb : b < 16) (hc : c < 16) (hd : d < 16) {K : LV → St → Prop} {kp : Value → St → Prop}
    (h : K (.tup []) ⟨env, (3, .box 66 (L16 (half4 V a b c d n td tb))) :: [(9, .box 3 [.v (.int .i64 (d : Int))]), (8, .box 3 [.v (.int .i64 (c : Int))]), (7, .box 3 [.v (.int .i64 (b : Int))]), (6, .box 3 [.v (.int .i64 (a : Int))]), (5, .box 209 [.lp 3 0]), (4, .box 117 (L8 F)), (3, .box 66 (L16 (half3 V a b c d n td))), (2, .box 66 (L16 M)), (1, .box 117 (L8 R)), (0, .box 117 (L8 Q))], 10, low⟩) :
    CallA Tryz.prog 180 [u n, .v (.int .i64 td), .v (.int .i64 tb), .lp 5 0, .lp 6 0, .lp 7 0, .lp 9 0, .lp 8 0] K kp ⟨env, [(9, .box 3 [.v (.int .i64 (d : Int))]), (8, .box 3 [.v (.int .i64 (c : Int))]), (7, .box 3 [.v (.int .i64 (b : Int))]), (6, .box 3 [.v (.int .i64 (a : Int))]), (5, .box 209 [.lp 3 0]), (4, .box 117 (L8 F)), (3, .box 66 (L16 (V))), (2, .box 66 (L16 M)), (1, .box 117 (L8 R)), (0, .box 117 (L8 Q))], 10, low⟩ := by
  refine CallA.bodyS Tryz.tabOk ft180 ?_
  refine DrawA.le (T := Tryz.tab) (st' := ⟨[(0, u n), (1, .v (.int .i64 td)), (2, .v (.int .i64 tb)), (3, .lp 5 0), (4, .lp 6 0), (5, .lp 7 0), (6, .lp 9 0), (7, .lp 8 0)], [(9, .box 3 [.v (.int .i64 (d : Int))]), (8, .box 3 [.v (.int .i64 (c : Int))]), (7, .box 3 [.v (.int .i64 (b : Int))]), (6, .box 3 [.v (.int .i64 (a : Int))]), (5, .box 209 [.lp 3 0]), (4, .box 117 (L8 F)), (3, .box 66 (L16 (V))), (2, .box 66 (L16 M)), (1, .box 117 (L8 R)), (0, .box 117 (L8 Q))], 10, 10⟩)
    ⟨rfl, ⟨rfl, Nat.le_refl _⟩, ⟨LV.le.refl _, rfl, LV.le.refl _, rfl, LV.le.refl _, rfl, LV.le.refl _, rfl, LV.le.refl _, rfl, LV.le.refl _, rfl, LV.le.refl _, rfl, LV.le.refl _, rfl, trivial⟩, ⟨⟨_, rfl, LO.le.refl _⟩, rfl, rfl, ⟨_, rfl, LO.le.refl _⟩, rfl, rfl, ⟨_, rfl, LO.le.refl _⟩, rfl, rfl, ⟨_, rfl, LO.le.refl _⟩, rfl, rfl, ⟨_, rfl, LO.le.refl _⟩, rfl, rfl, ⟨_, rfl, LO.le.refl _⟩, rfl, rfl, ⟨_, rfl, LO.le.refl _⟩, rfl, rfl, ⟨_, rfl, LO.le.refl _⟩, rfl, rfl, ⟨_, rfl, LO.le.refl _⟩, rfl, rfl, ⟨_, rfl, LO.le.refl _⟩, rfl, rfl, trivial⟩⟩ ?_
  refine DrawA.run Tryz.tabOk Tryz.mixed [0, 0, 1, 7, 15, 0, 0, 32, 224, 480, 0, 2016, 4095, 1, 16383, 32767] [15] rfl ?_
  refine ⟨_, ⟨LV.le.refl _, rfl⟩, ?_⟩
  refine ⟨_, ⟨LV.le.refl _, rfl⟩, ?_⟩
  refine ⟨_, ⟨LV.le.refl _, rfl⟩, ?_⟩
  refine ⟨.lp 3 a, ⟨⟨by omega, by omega⟩, LV.le.eq (congrArg (LV.lp 3) (by show 0 + (a : Int).toNat * 1 = a; omega)), rfl⟩, ?_⟩
  refine ⟨_, stepF_load rfl rfl rfl rfl rfl rfl (nth16 (V) a ha) (LV.le.refl _), ?_⟩
  refine ⟨_, ⟨LV.le.refl _, rfl⟩, ?_⟩
  refine ⟨_, ⟨LV.le.refl _, rfl⟩, ?_⟩
  refine ⟨_, ⟨LV.le.refl _, rfl⟩, ?_⟩
  refine ⟨.lp 3 b, ⟨⟨by omega, by omega⟩, LV.le.eq (congrArg (LV.lp 3) (by show 0 + (b : Int).toNat * 1 = b; omega)), rfl⟩, ?_⟩
  refine ⟨_, stepF_load rfl rfl rfl rfl rfl rfl (nth16 (V) b hb) (LV.le.refl _), ?_⟩
  refine ⟨_, ⟨LV.le.refl _, rfl⟩, ?_⟩
  refine ⟨_, ⟨LV.le.refl _, rfl⟩, ?_⟩
  refine ⟨_, ⟨LV.le.refl _, rfl⟩, ?_⟩
  refine ⟨_, ⟨LV.le.refl _, rfl⟩, ?_⟩
  refine ⟨.lp 3 a, ⟨⟨by omega, by omega⟩, LV.le.eq (congrArg (LV.lp 3) (by show 0 + (a : Int).toNat * 1 = a; omega)), rfl⟩, ?_⟩
  refine ⟨_, _, stepF_store rfl rfl rfl rfl rfl rfl rfl rfl (ble16 ha) (set16 (V) _ a ha), ?_⟩
  refine ⟨True.intro, ?_⟩
  refine DrawA.le (T := Tryz.tab) (st' := ⟨[(0, u n), (1, .v (.int .i64 td)), (2, .v (.int .i64 tb)), (3, .lp 5 0), (4, .lp 6 0), (5, .lp 7 0), (6, .lp 9 0), (7, .lp 8 0)], [(9, .box 3 [.v (.int .i64 (d : Int))]), (8, .box 3 [.v (.int .i64 (c : Int))]), (7, .box 3 [.v (.int .i64 (b : Int))]), (6, .box 3 [.v (.int .i64 (a : Int))]), (5, .box 209 [.lp 3 0]), (4, .box 117 (L8 F)), (3, .box 66 (L16 (half1 V a b n))), (2, .box 66 (L16 M)), (1, .box 117 (L8 R)), (0, .box 117 (L8 Q))], 10, 10⟩)
    ⟨rfl, ⟨rfl, Nat.le_refl _⟩, ⟨LV.le.refl _, rfl, LV.le.refl _, rfl, LV.le.refl _, rfl, LV.le.refl _, rfl, LV.le.refl _, rfl, LV.le.refl _, rfl, LV.le.refl _, rfl, LV.le.refl _, rfl, trivial⟩, ⟨⟨_, rfl, LO.le.refl _⟩, rfl, rfl, ⟨_, rfl, LO.le.refl _⟩, rfl, rfl, ⟨_, rfl, LO.le.refl _⟩, rfl, rfl, ⟨_, rfl, LO.le.refl _⟩, rfl, rfl, ⟨_, rfl, LO.le.refl _⟩, rfl, rfl, ⟨_, rfl, LO.le.refl _⟩, rfl, rfl, ⟨_, rfl, LO.le.refl _⟩, rfl, rfl, ⟨_, rfl, LO.le.refl _⟩, rfl, rfl, ⟨_, rfl, LO.le.refl _⟩, rfl, rfl, ⟨_, rfl, LO.le.refl _⟩, rfl, rfl, trivial⟩⟩ ?_
  refine DrawA.run Tryz.tabOk Tryz.mixed [0, 0, 0, 0, 4, 28, 60, 0, 0, 128, 896, 1920, 4092, 0, 8192, 32764, 1, 131071, 262143] [18] rfl ?_
  refine ⟨_, ⟨LV.le.refl _, rfl⟩, ?_⟩
  refine ⟨_, ⟨LV.le.refl _, rfl⟩, ?_⟩
  refine ⟨_, ⟨LV.le.refl _, rfl⟩, ?_⟩
  refine ⟨_, ⟨LV.le.refl _, rfl⟩, ?_⟩
  refine ⟨_, ⟨LV.le.refl _, rfl⟩, ?_⟩
  refine ⟨.lp 3 d, ⟨⟨by omega, by omega⟩, LV.le.eq (congrArg (LV.lp 3) (by show 0 + (d : Int).toNat * 1 = d; omega)), rfl⟩, ?_⟩
  refine ⟨_, stepF_load rfl rfl rfl rfl rfl rfl (nth16 (half1 V a b n) d hd) (LV.le.refl _), ?_⟩
  refine ⟨_, ⟨LV.le.refl _, rfl⟩, ?_⟩
  refine ⟨_, ⟨LV.le.refl _, rfl⟩, ?_⟩
  refine ⟨_, ⟨LV.le.refl _, rfl⟩, ?_⟩
  refine ⟨.lp 3 a, ⟨⟨by omega, by omega⟩, LV.le.eq (congrArg (LV.lp 3) (by show 0 + (a : Int).toNat * 1 = a; omega)), rfl⟩, ?_⟩
  refine ⟨_, stepF_load rfl rfl rfl rfl rfl rfl (nth16 (half1 V a b n) a ha) (LV.le.refl _), ?_⟩
  refine ⟨_, ⟨LV.le.refl _, rfl⟩, ?_⟩
  refine ⟨_, ⟨LV.le.refl _, rfl⟩, ?_⟩
  refine ⟨_, ⟨LV.le.refl _, rfl⟩, ?_⟩
  refine ⟨_, Ct.callC (rot_ct _ _) rfl (leL.refl _) ⟨LV.le.refl _, rfl⟩, ?_⟩
  refine ⟨_, ⟨LV.le.refl _, rfl⟩, ?_⟩
  refine ⟨.lp 3 d, ⟨⟨by omega, by omega⟩, LV.le.eq (congrArg (LV.lp 3) (by show 0 + (d : Int).toNat * 1 = d; omega)), rfl⟩, ?_⟩
  refine ⟨_, _, stepF_store rfl rfl rfl rfl rfl rfl rfl rfl (ble16 hd) (set16 (half1 V a b n) _ d hd), ?_⟩
  refine ⟨True.intro, ?_⟩
  refine DrawA.le (T := Tryz.tab) (st' := ⟨[(0, u n), (1, .v (.int .i64 td)), (2, .v (.int .i64 tb)), (3, .lp 5 0), (4, .lp 6 0), (5, .lp 7 0), (6, .lp 9 0), (7, .lp 8 0)], [(9, .box 3 [.v (.int .i64 (d : Int))]), (8, .box 3 [.v (.int .i64 (c : Int))]), (7, .box 3 [.v (.int .i64 (b : Int))]), (6, .box 3 [.v (.int .i64 (a : Int))]), (5, .box 209 [.lp 3 0]), (4, .box 117 (L8 F)), (3, .box 66 (L16 (half2 V a b d n td))), (2, .box 66 (L16 M)), (1, .box 117 (L8 R)), (0, .box 117 (L8 Q))], 10, 10⟩)
    ⟨rfl, ⟨rfl, Nat.le_refl _⟩, ⟨LV.le.refl _, rfl, LV.le.refl _, rfl, LV.le.refl _, rfl, LV.le.refl _, rfl, LV.le.refl _, rfl, LV.le.refl _, rfl, LV.le.refl _, rfl, LV.le.refl _, rfl, trivial⟩, ⟨⟨_, rfl, LO.le.refl _⟩, rfl, rfl, ⟨_, rfl, LO.le.refl _⟩, rfl, rfl, ⟨_, rfl, LO.le.refl _⟩, rfl, rfl, ⟨_, rfl, LO.le.refl _⟩, rfl, rfl, ⟨_, rfl, LO.le.refl _⟩, rfl, rfl, ⟨_, rfl, LO.le.refl _⟩, rfl, rfl, ⟨_, rfl, LO.le.refl _⟩, rfl, rfl, ⟨_, rfl, LO.le.refl _⟩, rfl, rfl, ⟨_, rfl, LO.le.refl _⟩, rfl, rfl, ⟨_, rfl, LO.le.refl _⟩, rfl, rfl, trivial⟩⟩ ?_
  refine DrawA.run Tryz.tabOk Tryz.mixed [0, 0, 1, 7, 15, 0, 0, 32, 224, 480, 1023, 1, 4095, 8191] [13] rfl ?_
  refine ⟨_, ⟨LV.le.refl _, rfl⟩, ?_⟩
  refine ⟨_, ⟨LV.le.refl _, rfl⟩, ?_⟩
  refine ⟨_, ⟨LV.le.refl _, rfl⟩, ?_⟩
  refine ⟨.lp 3 c, ⟨⟨by omega, by omega⟩, LV.le.eq (congrArg (LV.lp 3) (by show 0 + (c : Int).toNat * 1 = c; omega)), rfl⟩, ?_⟩
  refine ⟨_, stepF_load rfl rfl rfl rfl rfl rfl (nth16 (half2 V a b d n td) c hc) (LV.le.refl _), ?_⟩
  refine ⟨_, ⟨LV.le.refl _, rfl⟩, ?_⟩
  refine ⟨_, ⟨LV.le.refl _, rfl⟩, ?_⟩
  refine ⟨_, ⟨LV.le.refl _, rfl⟩, ?_⟩
  refine ⟨.lp 3 d, ⟨⟨by omega, by omega⟩, LV.le.eq (congrArg (LV.lp 3) (by show 0 + (d : Int).toNat * 1 = d; omega)), rfl⟩, ?_⟩
  refine ⟨_, stepF_load rfl rfl rfl rfl rfl rfl (nth16 (half2 V a b d n td) d hd) (LV.le.refl _), ?_⟩
  refine ⟨_, ⟨LV.le.refl _, rfl⟩, ?_⟩
  refine ⟨_, ⟨LV.le.refl _, rfl⟩, ?_⟩
  refine ⟨.lp 3 c, ⟨⟨by omega, by omega⟩, LV.le.eq (congrArg (LV.lp 3) (by show 0 + (c : Int).toNat * 1 = c; omega)), rfl⟩, ?_⟩
  refine ⟨_, _, stepF_store rfl rfl rfl rfl rfl rfl rfl rfl (ble16 hc) (set16 (half2 V a b d n td) _ c hc), ?_⟩
  refine ⟨True.intro, ?_⟩
  refine DrawA.le (T := Tryz.tab) (st' := ⟨[(0, u n), (1, .v (.int .i64 td)), (2, .v (.int .i64 tb)), (3, .lp 5 0), (4, .lp 6 0), (5, .lp 7 0), (6, .lp 9 0), (7, .lp 8 0)], [(9, .box 3 [.v (.int .i64 (d : Int))]), (8, .box 3 [.v (.int .i64 (c : Int))]), (7, .box 3 [.v (.int .i64 (b : Int))]), (6, .box 3 [.v (.int .i64 (a : Int))]), (5, .box 209 [.lp 3 0]), (4, .box 117 (L8 F)), (3, .box 66 (L16 (half3 V a b c d n td))), (2, .box 66 (L16 M)), (1, .box 117 (L8 R)), (0, .box 117 (L8 Q))], 10, 10⟩)
    ⟨rfl, ⟨rfl, Nat.le_refl _⟩, ⟨LV.le.refl _, rfl, LV.le.refl _, rfl, LV.le.refl _, rfl, LV.le.refl _, rfl, LV.le.refl _, rfl, LV.le.refl _, rfl, LV.le.refl _, rfl, LV.le.refl _, rfl, trivial⟩, ⟨⟨_, rfl, LO.le.refl _⟩, rfl, rfl, ⟨_, rfl, LO.le.refl _⟩, rfl, rfl, ⟨_, rfl, LO.le.refl _⟩, rfl, rfl, ⟨_, rfl, LO.le.refl _⟩, rfl, rfl, ⟨_, rfl, LO.le.refl _⟩, rfl, rfl, ⟨_, rfl, LO.le.refl _⟩, rfl, rfl, ⟨_, rfl, LO.le.refl _⟩, rfl, rfl, ⟨_, rfl, LO.le.refl _⟩, rfl, rfl, ⟨_, rfl, LO.le.refl _⟩, rfl, rfl, ⟨_, rfl, LO.le.refl _⟩, rfl, rfl, trivial⟩⟩ ?_
  refine DrawA.run Tryz.tabOk Tryz.mixed [0, 0, 0, 0, 4, 28, 60, 0, 0, 128, 896, 1920, 4092, 0, 8192, 32764, 1, 131071, 262143] [18] rfl ?_
  refine ⟨_, ⟨LV.le.refl _, rfl⟩, ?_⟩
  refine ⟨_, ⟨LV.le.refl _, rfl⟩, ?_⟩
  refine ⟨_, ⟨LV.le.refl _, rfl⟩, ?_⟩
  refine ⟨_, ⟨LV.le.refl _, rfl⟩, ?_⟩
  refine ⟨_, ⟨LV.le.refl _, rfl⟩, ?_⟩
  refine ⟨.lp 3 b, ⟨⟨by omega, by omega⟩, LV.le.eq (congrArg (LV.lp 3) (by show 0 + (b : Int).toNat * 1 = b; omega)), rfl⟩, ?_⟩
  refine ⟨_, stepF_load rfl rfl rfl rfl rfl rfl (nth16 (half3 V a b c d n td) b hb) (LV.le.refl _), ?_⟩
  refine ⟨_, ⟨LV.le.refl _, rfl⟩, ?_⟩
  refine ⟨_, ⟨LV.le.refl _, rfl⟩, ?_⟩
  refine ⟨_, ⟨LV.le.refl _, rfl⟩, ?_⟩
  refine ⟨.lp 3 c, ⟨⟨by omega, by omega⟩, LV.le.eq (congrArg (LV.lp 3) (by show 0 + (c : Int).toNat * 1 = c; omega)), rfl⟩, ?_⟩
  refine ⟨_, stepF_load rfl rfl rfl rfl rfl rfl (nth16 (half3 V a b c d n td) c hc) (LV.le.refl _), ?_⟩
  refine ⟨_, ⟨LV.le.refl _, rfl⟩, ?_⟩
  refine ⟨_, ⟨LV.le.refl _, rfl⟩, ?_⟩
  refine ⟨_, ⟨LV.le.refl _, rfl⟩, ?_⟩
  refine ⟨_, Ct.callC (rot_ct _ _) rfl (leL.refl _) ⟨LV.le.refl _, rfl⟩, ?_⟩
  refine ⟨_, ⟨LV.le.refl _, rfl⟩, ?_⟩
  refine ⟨.lp 3 b, ⟨⟨by omega, by omega⟩, LV.le.eq (congrArg (LV.lp 3) (by show 0 + (b : Int).toNat * 1 = b; omega)), rfl⟩, ?_⟩
  refine ⟨_, _, stepF_store rfl rfl rfl rfl rfl rfl rfl rfl (ble16 hb) (set16 (half3 V a b c d n td) _ b hb), ?_⟩
  refine ⟨True.intro, ?_⟩
  exact ⟨⟨rfl, rfl, rfl⟩, _, LV.le.refl _, h⟩
def mix7 (V : Nat → Int) (a b c d : Nat) (x y : Int) : Nat → Int := half3 (half4 V a b c d x 16 12) a b c d y 8
def mixF (V : Nat → Int) (a b c d : Nat) (x y : Int) : Nat → Int := half4 (half4 V a b c d x 16 12) a b c d y 8 7
theorem mix_ca (env : List (Nat × LV)) (low : Nat) (Q R F M V : Nat → Int) (a b c d : Nat) (x y : Int) (ha : a < 16) (hb : b < 16) (hc : c < 16) (hd : d < 16) {K : LV → St → Prop} {kp : Value → St → Prop}
    (h : K (.tup []) ⟨env, [(3, .box 66 (L16 (mixF V a b c d x y))), (4, .box 117 (L8 F)), (3, .box 66 (L16 (mix7 V a b c d x y))), (2, .box 66 (L16 M)), (1, .box 117 (L8 R)), (0, .box 117 (L8 Q))], 5, low⟩) :
    CallA Tryz.prog 152 [.lp 3 0, .v (.int .i64 (a : Int)), .v (.int .i64 (b : Int)), .v (.int .i64 (c : Int)), .v (.int .i64 (d : Int)), u x, u y] K kp ⟨env, [(4, .box 117 (L8 F)), (3, .box 66 (L16 V)), (2, .box 66 (L16 M)), (1, .box 117 (L8 R)), (0, .box 117 (L8 Q))], 5, low⟩ := by
  refine CallA.bodyS Tryz.tabOk ft152 ?_
  refine half_ca _ _ Q R F M V a b c d x 16 12 ha hb hc hd ?_
  refine CallA.le ⟨[], [(9, .box 3 [.v (.int .i64 (d : Int))]), (8, .box 3 [.v (.int .i64 (c : Int))]), (7, .box 3 [.v (.int .i64 (b : Int))]), (6, .box 3 [.v (.int .i64 (a : Int))]), (5, .box 209 [.lp 3 0]), (4, .box 117 (L8 F)), (3, .box 66 (L16 (half4 V a b c d x 16 12))), (2, .box 66 (L16 M)), (1, .box 117 (L8 R)), (0, .box 117 (L8 Q))], 10, 5⟩ ⟨rfl, ⟨rfl, Nat.le_refl _⟩, trivial, ⟨⟨_, rfl, LO.le.refl _⟩, rfl, rfl, ⟨_, rfl, LO.le.refl _⟩, rfl, rfl, ⟨_, rfl, LO.le.refl _⟩, rfl, rfl, ⟨_, rfl, LO.le.refl _⟩, rfl, rfl, ⟨_, rfl, LO.le.refl _⟩, rfl, rfl, ⟨_, rfl, LO.le.refl _⟩, rfl, rfl, ⟨_, rfl, LO.le.refl _⟩, rfl, rfl, ⟨_, rfl, LO.le.refl _⟩, rfl, rfl, ⟨_, rfl, LO.le.refl _⟩, rfl, rfl, ⟨_, rfl, LO.le.refl _⟩, rfl, rfl, trivial⟩⟩ (leL.refl _) rfl ?_
  refine half_ca _ _ Q R F M (half4 V a b c d x 16 12) a b c d y 8 7 ha hb hc hd ?_
  exact ⟨⟨rfl, rfl, rfl⟩, _, LV.le.refl _, h⟩
end Go.Proofs.Aw
