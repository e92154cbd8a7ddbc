/- A PART OF THE PROOF: an abstract run of the loaded code over value trees, and the functions walked by it. No condition of its own. -/
import Derived.Test.YtanmknmlphkeaaaDoorJD
import Derived.Test.YtanmknmlphkeaaaDoorDB
namespace Go.Proofs.Aw
open Go Go.Proofs Go.RowKit
set_option maxHeartbeats 8000000
set_option maxRecDepth 100000
theorem texts_same_ct (n : Nat) (a : TL) (hn : n ≤ 1000000000) : Ct Tryd.prog 22 [.sl 1 n (tx a), .sl 1 n (tx a)] (.v (.bool true)) := by
  refine Ct.enter Tryd.tabOk ft22 ?_
  refine ⟨fun h => absurd h (by simp), fun _ => ?_⟩
  refine ⟨Nat, fun j => ⟨[(13, .v (.int .i64 (j : Int))), (12, .v (.int .i64 (n : Int))), (0, .sl 1 n (tx a)), (1, .sl 1 n (tx a))], [], 0, 0⟩, fun j => j ≤ n, fun j => n - j, 0, Nat.zero_le _,
    .le ⟨rfl, ⟨rfl, Nat.le_refl _⟩, ⟨LV.le.refl _, rfl, LV.le.refl _, rfl, LV.le.refl _, rfl, LV.le.refl _, rfl, trivial⟩, trivial⟩, fun j hj => ⟨fun h1 => ?_, fun h1 => ?_⟩⟩
  · have h1 := dT h1
    have e11 : IntKind.i64.wrap ((j : Int) + 1) = ((j + 1 : Nat) : Int) := by rw [w64] <;> omega
    refine DrawA.run Tryd.tabOk Tryd.mixed [0, 0, 3, 7, 0, 0, 48, 112, 255] [] rfl ?_
    refine ⟨_, ⟨LV.le.refl _, rfl⟩, ?_⟩
    refine ⟨_, ⟨LV.le.refl _, rfl⟩, ?_⟩
    refine ⟨_, ⟨⟨by omega, by omega⟩, LV.le.refl _, rfl⟩, ?_⟩
    refine ⟨_, ⟨LV.le.refl _, rfl⟩, ?_⟩
    refine ⟨_, ⟨LV.le.refl _, rfl⟩, ?_⟩
    refine ⟨_, ⟨LV.le.refl _, rfl⟩, ?_⟩
    refine ⟨_, ⟨⟨by omega, by omega⟩, LV.le.refl _, rfl⟩, ?_⟩
    refine ⟨_, ⟨LV.le.refl _, rfl⟩, ?_⟩
    refine ⟨.v (.bool false), ⟨LV.le.bsV (by simp), rfl⟩, ?_⟩
    refine ⟨True.intro, ?_⟩
    exact ⟨j + 1, (by omega : j + 1 ≤ n), (by omega : n - (j + 1) < n - j), .le ⟨rfl, ⟨rfl, Nat.le_refl _⟩, ⟨LV.le.int e11, rfl, LV.le.refl _, rfl, LV.le.refl _, rfl, LV.le.refl _, rfl, trivial⟩, trivial⟩⟩
  · exact ⟨LV.le.refl _, rfl⟩
def imgL (n m : Nat) (a c : TL) (z : List UInt8) : LV := .agg [.sl 1 n (tx a), .sl 1 m (tx c), .str z]
theorem isame_ct (n m : Nat) (a c : TL) (z : List UInt8) (hn : n ≤ 1000000000) (hm : m ≤ 1000000000) : Ct Tryd.prog 9 [imgL n m a c z, imgL n m a c z] (.v (.bool true)) := by
  refine Ct.enter Tryd.tabOk ft9 ?_
  refine Ct.callC (texts_same_ct n a hn) rfl (leL.refl _) ?_
  refine Ct.callC (texts_same_ct m c hm) rfl (leL.refl _) ?_
  exact ⟨LV.le.bsV (by simp), rfl⟩
theorem rowN_congr {w w' : TL} : ∀ {n : Nat}, (∀ i, i < n → w i = w' i) → rowN w n = rowN w' n
  | 0, _ => rfl
  | n + 1, h => by simp only [rowN]; rw [rowN_congr fun i hi => h i (by omega), h n (by omega)]
theorem rowN_shift (s : List UInt8) (w : TL) : ∀ n, rowN (fun i => match i with | 0 => s | i + 1 => w i) (n + 1) = lenEnc s.length ++ s ++ rowN w n
  | 0 => by simp [rowN]
  | n + 1 => by
    have ih := rowN_shift s w n
    rw [rowN, ih]
    simp [rowN]
theorem rowN_list : ∀ (l : List (List UInt8)), rowN (atL l) l.length = rowL l
  | [] => rfl
  | s :: r => by
    simp only [rowL]
    rw [← rowN_list r, ← rowN_shift s (atL r) r.length]
    refine rowN_congr fun i hi => ?_
    cases i <;> rfl
/-- the four texts of an image's row -/
def four4 (a b c d : List UInt8) : TL := atL [a, b, c, d]
theorem bytes_ct (n m : Nat) (a c : TL) (z : List UInt8) (hn : n ≤ 100000000) (hm : m ≤ 100000000) (h1 : (rowN a n).length ≤ 1000000000) (h2 : (rowN c m).length ≤ 1000000000) (h3 : (rowL [hibi, rowN a n, rowN c m, z]).length ≤ 1000000000) :
    Ct Tryd.prog 10 [imgL n m a c z] (.str (rowL [hibi, rowN a n, rowN c m, z])) := by
  have e4 := rowN_list [hibi, rowN a n, rowN c m, z]
  refine Ct.enter Tryd.tabOk ft10 ?_
  refine DrawA.run Tryd.tabOk Tryd.mixed [0, 1, 3, 0, 8, 31, 0, 64, 255, 511, 1023] [8] rfl ?_
  refine ⟨_, ⟨LV.le.refl _, rfl⟩, ?_⟩
  refine ⟨_, ⟨LV.le.refl _, rfl⟩, ?_⟩
  refine ⟨_, Ct.callC (row_ct n a hn h1) rfl (leL.refl _) ⟨LV.le.refl _, rfl⟩, ?_⟩
  refine ⟨_, ⟨LV.le.refl _, rfl⟩, ?_⟩
  refine ⟨_, ⟨LV.le.refl _, rfl⟩, ?_⟩
  refine ⟨_, Ct.callC (row_ct m c hm h2) rfl (leL.refl _) ⟨LV.le.refl _, rfl⟩, ?_⟩
  refine ⟨_, ⟨LV.le.refl _, rfl⟩, ?_⟩
  refine ⟨_, ⟨LV.le.refl _, rfl⟩, ?_⟩
  refine ⟨_, _, ⟨LV.le.refl _, rfl⟩, ?_⟩
  refine ⟨_, Ct.callF (row_ct 4 (atL [hibi, rowN a n, rowN c m, z]) (by omega) (by rw [← e4] at h3; exact h3)) rfl ⟨_, _, rfl, LV.le.sl rfl fun i hi => ?_, rfl⟩ rfl ⟨LV.le.refl _, rfl⟩, ?_⟩
  · rcases (by omega : i = 0 ∨ i = 1 ∨ i = 2 ∨ i = 3) with rfl | rfl | rfl | rfl <;> rfl
  refine ⟨_, ⟨LV.le.refl _, rfl⟩, ?_⟩
  refine ⟨True.intro, ?_⟩
  exact ⟨LV.le.eq (congrArg LV.str e4), rfl⟩
end Go.Proofs.Aw
namespace Go.Proofs.Aw
open Go Go.Proofs Go.RowKit
set_option maxHeartbeats 8000000
set_option maxRecDepth 100000
theorem img_some {b z : List UInt8} {f g : List (List UInt8)} (h : img b = some (f, g, z)) : rowL [hibi, rowN (atL f) f.length, rowN (atL g) g.length, z] = b := by
  unfold img at h
  split at h
  · rename_i w x y z' hT
    split at h
    · rename_i hw
      split at h
      · rename_i f' g' hx hy
        injection h with h
        injection h with h1 h2
        injection h2 with h2 h3
        subst h1; subst h2; subst h3; subst hw
        rw [rowN_list, rowN_list, rdT_row x.length x _ (Nat.le_refl _) hx, rdT_row y.length y _ (Nat.le_refl _) hy]
        exact rdT_row b.length b _ (Nat.le_refl _) hT
      · cases h
    · cases h
  · cases h
def emptyB : List UInt8 := [4, 104, 105, 98, 105, 0, 0, 0]
theorem empty_row : rowL [hibi, [], [], []] = emptyB := by
  simp only [rowL, hibi, List.length_cons, List.length_nil]
  rw [lenEnc_lt (by decide), lenEnc_lt (by decide)]
  rfl
theorem img_empty : img emptyB = some ([], [], []) := rfl
theorem of_none (c : Int) (M0 M1 : Nat) (w0 w1 : TL) : Ct Tryd.prog 17 [.agg (macB c M0 M1 w0 w1)] (.agg [.v (.slice none 0 0), .v (.slice none 0 0), .str []]) := by
  refine Ct.enter Tryd.tabOk ft17 ?_
  refine Ct.callC (check_bad c M0 M1 w0 w1) rfl (leL.refl _) ?_
  refine ⟨fun h => ?_, fun h => absurd h (by decide)⟩
  exact ⟨LV.le.refl _, rfl⟩
def noW : TL := fun _ => []
theorem imgN : leL [LV.agg [.v (.slice none 0 0), .v (.slice none 0 0), .str []]] [imgL 0 0 noW noW []] := ⟨_, _, rfl, LV.le.agg ⟨_, _, rfl, LV.le.nil, _, _, rfl, LV.le.nil, _, _, rfl, LV.le.refl _, rfl⟩, rfl⟩
theorem empty4 : rowN (atL [hibi, [], [], []]) 4 = emptyB := by rw [← empty_row]; exact rowN_list [hibi, [], [], []]
theorem awake_ct : Ct Tryd.prog 6 [] (.v (.bool true)) := by
  refine Ct.enter Tryd.tabOk ft6 ?_
  refine Ct.callC (of_none 0 0 0 noW noW) rfl ⟨_, _, rfl, LV.le.agg ⟨_, _, rfl, LV.le.refl _, _, _, rfl, LV.le.refl _, _, _, rfl, LV.le.any _, _, _, rfl, LV.le.any _, _, _, rfl, LV.le.nil, _, _, rfl, LV.le.any _, _, _, rfl, LV.le.any _, _, _, rfl, LV.le.any _, _, _, rfl, LV.le.any _, _, _, rfl, LV.le.any _, _, _, rfl, LV.le.any _, _, _, rfl, LV.le.any _, _, _, rfl, LV.le.any _, _, _, rfl, LV.le.nil, _, _, rfl, LV.le.any _, _, _, rfl, LV.le.any _, _, _, rfl, LV.le.any _, rfl⟩, rfl⟩ ?_
  refine Ct.callC (iread_ct [] (by simp) none rfl) rfl (leL.refl _) ?_
  refine Ct.callC (bytes_ct 0 0 noW noW [] (by omega) (by omega) (by simp [rowN]) (by simp [rowN]) (by show (rowL [hibi, [], [], []]).length ≤ _; rw [empty_row]; decide)) rfl imgN ?_
  refine Ct.callC (args := [.str emptyB]) (iread_ct emptyB (by decide) _ img_empty) rfl ⟨_, _, rfl, LV.le.eq (congrArg LV.str empty_row), rfl⟩ ?_
  refine ⟨fun _ => ?_, fun h => absurd h (by decide)⟩
  refine ⟨fun _ => ?_, fun h => absurd h (by decide)⟩
  refine Ct.callF (row_ct 4 (atL [hibi, [], [], []]) (by omega) (by rw [empty4]; decide)) rfl ⟨_, _, rfl, LV.le.sl rfl fun i hi => ?_, rfl⟩ rfl ?_
  · rcases (by omega : i = 0 ∨ i = 1 ∨ i = 2 ∨ i = 3) with rfl | rfl | rfl | rfl <;> rfl
  refine ⟨fun _ => ?_, fun h => ?_⟩
  rotate_left
  · have h : (rowL [hibi, [], [], []] == rowN (atL [hibi, [], [], []]) 4) = false := h
    rw [empty4, empty_row] at h
    simp at h
  refine ⟨fun _ => ?_, fun h => absurd h (by decide)⟩
  refine Ct.callC (isame_ct 0 0 noW noW [] (by omega) (by omega)) rfl ⟨_, _, rfl, LV.le.agg ⟨_, _, rfl, LV.le.nil, _, _, rfl, LV.le.nil, _, _, rfl, LV.le.refl _, rfl⟩, _, _, rfl, LV.le.agg ⟨_, _, rfl, LV.le.sl rfl (fun i hi => absurd hi (by simp)), _, _, rfl, LV.le.sl rfl (fun i hi => absurd hi (by simp)), _, _, rfl, LV.le.refl _, rfl⟩, rfl⟩ ?_
  exact ⟨LV.le.refl _, rfl⟩
end Go.Proofs.Aw
namespace Go.Proofs.Aw
open Go Go.Proofs Go.RowKit
set_option maxHeartbeats 8000000
set_option maxRecDepth 100000
theorem img_lens {b z : List UInt8} {f g : List (List UInt8)} (h : rowL [hibi, rowN (atL f) f.length, rowN (atL g) g.length, z] = b) : (rowN (atL f) f.length).length ≤ b.length ∧ (rowN (atL g) g.length).length ≤ b.length ∧ f.length ≤ b.length ∧ g.length ≤ b.length := by
  have key : ∀ (w : TL) (n : Nat), n ≤ (rowN w n).length := by
    intro w n
    induction n with
    | zero => exact Nat.zero_le _
    | succ n ih => have := lenEnc_pos (w n).length; simp only [rowN, List.length_append]; omega
  have h1 := key (atL f) f.length
  have h2 := key (atL g) g.length
  rw [← h]
  simp only [rowL, List.length_append]
  omega
theorem reads_ct (b : List UInt8) : Ct Tryd.prog 3 [.str b] (.v (.bool true)) := by
  refine Ct.enter Tryd.tabOk ft3 ?_
  refine ⟨fun _ => ?_, fun h => ?_⟩
  · refine Ct.callC awake_ct rfl (leL.refl _) ?_
    exact ⟨LV.le.refl _, rfl⟩
  have h := dF h
  have h : ¬ (b.length : Int) > 3000 := h
  have hb : b.length ≤ 100000000 := by omega
  cases hI : img b with
  | none =>
    refine Ct.callC (iread_ct b hb _ hI) rfl (leL.refl _) ?_
    refine Ct.callC (rread_ct b hb _ hI) rfl (leL.refl _) ?_
    refine ⟨fun _ => ?_, fun h => absurd h (by decide)⟩
    refine Ct.callC (isame_ct 0 0 noW noW [] (by omega) (by omega)) rfl ⟨_, _, rfl, LV.le.agg ⟨_, _, rfl, LV.le.nil, _, _, rfl, LV.le.nil, _, _, rfl, LV.le.refl _, rfl⟩, _, _, rfl, LV.le.agg ⟨_, _, rfl, LV.le.nil, _, _, rfl, LV.le.nil, _, _, rfl, LV.le.refl _, rfl⟩, rfl⟩ ?_
    refine ⟨fun _ => ?_, fun h => absurd h (by decide)⟩
    refine Ct.callC awake_ct rfl (leL.refl _) ?_
    exact ⟨LV.le.refl _, rfl⟩
  | some r =>
    obtain ⟨f, g, z⟩ := r
    have e := img_some hI
    have hl := img_lens e
    refine Ct.callC (iread_ct b hb _ hI) rfl (leL.refl _) ?_
    refine Ct.callC (rread_ct b hb _ hI) rfl (leL.refl _) ?_
    refine ⟨fun _ => ?_, fun h => absurd h (by decide)⟩
    refine Ct.callC (isame_ct f.length g.length (atL f) (atL g) z (by omega) (by omega)) rfl (leL.refl _) ?_
    refine ⟨fun h => absurd h (by decide), fun _ => ?_⟩
    refine Ct.callC (bytes_ct f.length g.length (atL f) (atL g) z (by omega) (by omega) (by omega) (by omega) (by rw [e]; omega)) rfl (leL.refl _) ?_
    refine ⟨fun _ => ?_, fun h => ?_⟩
    · refine Ct.callC awake_ct rfl (leL.refl _) ?_
      exact ⟨LV.le.refl _, rfl⟩
    · have h : (rowL [hibi, rowN (atL f) f.length, rowN (atL g) g.length, z] == b) = false := h
      rw [e] at h
      simp at h
end Go.Proofs.Aw
