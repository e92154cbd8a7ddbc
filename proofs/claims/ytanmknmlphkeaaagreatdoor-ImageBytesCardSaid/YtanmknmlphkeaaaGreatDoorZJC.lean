/- A PART OF THE PROOF: an abstract run of the loaded code over value trees, and the functions walked by it. No condition of its own. -/
import Derived.Test.YtanmknmlphkeaaaGreatDoorZJB
import Derived.Test.YtanmknmlphkeaaaGreatDoorZDB
namespace Go.Proofs.Aw
open Go Go.Proofs Go.RowKit
set_option maxHeartbeats 8000000
set_option maxRecDepth 100000
def hibi : List UInt8 := [104, 105, 98, 105]
/-- the image of bytes, or none -/
def img (b : List UInt8) : Option (List (List UInt8) × List (List UInt8) × List UInt8) := match rdT b with
  | .ok [w, x, y, z] => if w = hibi then (match rdT x, rdT y with
    | .ok f, .ok g => some (f, g, z)
    | _, _ => none) else none
  | _ => none
def imgRes : Option (List (List UInt8) × List (List UInt8) × List UInt8) → LV
  | none => .tup [.agg [.v (.slice none 0 0), .v (.slice none 0 0), .str []], .v (.int .i64 3)]
  | some (f, g, z) => .tup [.agg [txL f, txL g, .str z], .v (.int .i64 0)]
theorem img_bad {b : List UInt8} {e : Int} (h : rdT b = .bad e) : img b = none := by unfold img; rw [h]
theorem img_len {b : List UInt8} {l : List (List UInt8)} (h : rdT b = .ok l) (hl : l.length ≠ 4) : img b = none := by
  unfold img; rw [h]
  match l with
  | [] => rfl
  | [_] => rfl
  | [_, _] => rfl
  | [_, _, _] => rfl
  | [_, _, _, _] => simp at hl
  | _ :: _ :: _ :: _ :: _ :: _ => rfl
theorem img_word {b w x y z : List UInt8} (h : rdT b = .ok [w, x, y, z]) (hw : w ≠ hibi) : img b = none := by unfold img; rw [h]; exact if_neg hw
theorem img_x {b w x y z : List UInt8} {e : Int} (h : rdT b = .ok [w, x, y, z]) (hx : rdT x = .bad e) : img b = none := by
  unfold img; rw [h]; simp only [hx]; exact ite_self none
theorem img_y {b w x y z : List UInt8} {e : Int} (h : rdT b = .ok [w, x, y, z]) (hy : rdT y = .bad e) : img b = none := by
  unfold img; rw [h]; simp only [hy]; cases rdT x <;> exact ite_self none
theorem img_ok {b x y z : List UInt8} {f g : List (List UInt8)} (h : rdT b = .ok [hibi, x, y, z]) (hx : rdT x = .ok f) (hy : rdT y = .ok g) : img b = some (f, g, z) := by
  unfold img; rw [h]; simp only [hx, hy]; simp
theorem four {l : List (List UInt8)} (h : l.length = 4) : ∃ w x y z, l = [w, x, y, z] := by
  match l, h with
  | [w, x, y, z], _ => exact ⟨w, x, y, z, rfl⟩
theorem row_mem {l : List (List UInt8)} {x : List UInt8} (h : x ∈ l) : x.length ≤ (rowL l).length := by
  induction l with
  | nil => cases h
  | cons s r ih =>
    simp only [rowL, List.length_append]
    rcases List.mem_cons.1 h with rfl | h
    · omega
    · have := ih h; omega
theorem rdT_mem {b x : List UInt8} {l : List (List UInt8)} (h : rdT b = .ok l) (hx : x ∈ l) : x.length ≤ b.length := by
  have := rdT_row b.length b l (Nat.le_refl _) h
  have h2 := row_mem hx
  rw [this] at h2; exact h2
theorem neT {a b : List UInt8} (h : (a != b) = true) : a ≠ b := by simpa using h
theorem neF {a b : List UInt8} (h : (a != b) = false) : a = b := by simpa using h
theorem iread_ct (b : List UInt8) (hb : b.length ≤ 100000000) (R : Option (List (List UInt8) × List (List UInt8) × List UInt8)) (hR : img b = R) : Ct Tryz.prog 31 [.str b] (imgRes R) := by
  refine Ct.enter Tryz.tabOk ft31 ?_
  cases hT : rdT b with
  | bad e =>
    have he := rdT_bads hT
    refine Ct.callC (texts_ct b hb _ hT) rfl (leL.refl _) ?_
    refine ⟨fun _ => ?_, fun h => ?_⟩
    · rw [img_bad hT] at hR
      subst hR
      exact ⟨LV.le.refl _, rfl⟩
    · have h : (e != 0) = false := h
      have h0 : e = 0 := by simpa using h
      omega
  | ok l =>
    refine Ct.callC (texts_ct b hb _ hT) rfl (leL.refl _) ?_
    refine ⟨fun h => absurd h (by decide), fun _ => ⟨fun h => ?_, fun h => ?_⟩⟩
    · have h : ((l.length : Int) != 4) = true := h
      have h : (l.length : Int) ≠ 4 := by simpa using h
      rw [img_len hT (by omega)] at hR
      subst hR
      exact ⟨LV.le.refl _, rfl⟩
    · have h : ((l.length : Int) != 4) = false := h
      have h : (l.length : Int) = 4 := by simpa using h
      obtain ⟨w, x, y, z, rfl⟩ := four (l := l) (by omega)
      clear h
      refine ⟨⟨by decide, by simp⟩, ⟨fun hw => ?_, fun hw => ?_⟩⟩
      · have hw : (w != hibi) = true := hw
        rw [img_word hT (neT hw)] at hR
        subst hR
        exact ⟨LV.le.refl _, rfl⟩
      · have hw : (w != hibi) = false := hw
        obtain rfl : w = hibi := neF hw
        have lx := rdT_mem hT (x := x) (by simp)
        have ly := rdT_mem hT (x := y) (by simp)
        refine ⟨⟨by decide, by simp⟩, ?_⟩
        cases hx : rdT x with
        | bad e =>
          have he := rdT_bads hx
          rw [img_x hT hx] at hR
          subst hR
          refine Ct.callC (texts_ct x (by omega) _ hx) rfl (leL.refl _) ?_
          refine ⟨⟨by decide, by simp⟩, ?_⟩
          cases hy : rdT y with
          | bad e2 =>
            refine Ct.callC (texts_ct y (by omega) _ hy) rfl (leL.refl _) ?_
            refine ⟨fun _ => ?_, fun h => ?_⟩
            · exact ⟨LV.le.refl _, rfl⟩
            · have h : (e != 0) = false := h
              have h0 : e = 0 := by simpa using h
              omega
          | ok g =>
            refine Ct.callC (texts_ct y (by omega) _ hy) rfl (leL.refl _) ?_
            refine ⟨fun _ => ?_, fun h => ?_⟩
            · exact ⟨LV.le.refl _, rfl⟩
            · have h : (e != 0) = false := h
              have h0 : e = 0 := by simpa using h
              omega
        | ok f =>
          refine Ct.callC (texts_ct x (by omega) _ hx) rfl (leL.refl _) ?_
          refine ⟨⟨by decide, by simp⟩, ?_⟩
          cases hy : rdT y with
          | bad e2 =>
            have he := rdT_bads hy
            rw [img_y hT hy] at hR
            subst hR
            refine Ct.callC (texts_ct y (by omega) _ hy) rfl (leL.refl _) ?_
            refine ⟨fun h => absurd h (by decide), fun _ => ⟨fun _ => ?_, fun h => ?_⟩⟩
            · exact ⟨LV.le.refl _, rfl⟩
            · have h : (e2 != 0) = false := h
              have h0 : e2 = 0 := by simpa using h
              omega
          | ok g =>
            rw [img_ok hT hx hy] at hR
            subst hR
            refine Ct.callC (texts_ct y (by omega) _ hy) rfl (leL.refl _) ?_
            refine ⟨fun h => absurd h (by decide), fun _ => ⟨fun h => absurd h (by decide), fun _ => ?_⟩⟩
            refine ⟨⟨by decide, by simp⟩, ?_⟩
            exact ⟨LV.le.refl _, rfl⟩
end Go.Proofs.Aw
namespace Go.Proofs.Aw
open Go Go.Proofs Go.RowKit
set_option maxHeartbeats 8000000
set_option maxRecDepth 100000
theorem texts_same_ct (n : Nat) (a : TL) (hn : n ≤ 1000000000) : Ct Tryz.prog 52 [.sl 1 n (tx a), .sl 1 n (tx a)] (.v (.bool true)) := by
  refine Ct.enter Tryz.tabOk ft52 ?_
  refine ⟨fun h => absurd h (by simp), fun _ => ?_⟩
  refine ⟨Nat, fun j => ⟨[(13, .v (.int .i64 (j : Int))), (12, .v (.int .i64 (n : Int))), (0, .sl 1 n (tx a)), (1, .sl 1 n (tx a))], [], 0, 0⟩, fun j => j ≤ n, fun j => n - j, 0, Nat.zero_le _,
    .le ⟨rfl, ⟨rfl, Nat.le_refl _⟩, ⟨LV.le.refl _, rfl, LV.le.refl _, rfl, LV.le.refl _, rfl, LV.le.refl _, rfl, trivial⟩, trivial⟩, fun j hj => ⟨fun h1 => ?_, fun h1 => ?_⟩⟩
  · have h1 := dT h1
    have e11 : IntKind.i64.wrap ((j : Int) + 1) = ((j + 1 : Nat) : Int) := by rw [w64] <;> omega
    refine DrawA.run Tryz.tabOk Tryz.mixed [0, 0, 3, 7, 0, 0, 48, 112, 255] [] rfl ?_
    refine ⟨_, ⟨LV.le.refl _, rfl⟩, ?_⟩
    refine ⟨_, ⟨LV.le.refl _, rfl⟩, ?_⟩
    refine ⟨_, ⟨⟨by omega, by omega⟩, LV.le.refl _, rfl⟩, ?_⟩
    refine ⟨_, ⟨LV.le.refl _, rfl⟩, ?_⟩
    refine ⟨_, ⟨LV.le.refl _, rfl⟩, ?_⟩
    refine ⟨_, ⟨LV.le.refl _, rfl⟩, ?_⟩
    refine ⟨_, ⟨⟨by omega, by omega⟩, LV.le.refl _, rfl⟩, ?_⟩
    refine ⟨_, ⟨LV.le.refl _, rfl⟩, ?_⟩
    refine ⟨.v (.bool false), ⟨LV.le.bsV (by simp), rfl⟩, ?_⟩
    refine ⟨True.intro, ?_⟩
    exact ⟨j + 1, (by omega : j + 1 ≤ n), (by omega : n - (j + 1) < n - j), .le ⟨rfl, ⟨rfl, Nat.le_refl _⟩, ⟨LV.le.int e11, rfl, LV.le.refl _, rfl, LV.le.refl _, rfl, LV.le.refl _, rfl, trivial⟩, trivial⟩⟩
  · exact ⟨LV.le.refl _, rfl⟩
def imgL (n m : Nat) (a c : TL) (z : List UInt8) : LV := .agg [.sl 1 n (tx a), .sl 1 m (tx c), .str z]
theorem isame_ct (n m : Nat) (a c : TL) (z : List UInt8) (hn : n ≤ 1000000000) (hm : m ≤ 1000000000) : Ct Tryz.prog 14 [imgL n m a c z, imgL n m a c z] (.v (.bool true)) := by
  refine Ct.enter Tryz.tabOk ft14 ?_
  refine Ct.callC (texts_same_ct n a hn) rfl (leL.refl _) ?_
  refine Ct.callC (texts_same_ct m c hm) rfl (leL.refl _) ?_
  exact ⟨LV.le.bsV (by simp), rfl⟩
theorem rowN_congr {w w' : TL} : ∀ {n : Nat}, (∀ i, i < n → w i = w' i) → rowN w n = rowN w' n
  | 0, _ => rfl
  | n + 1, h => by simp only [rowN]; rw [rowN_congr fun i hi => h i (by omega), h n (by omega)]
theorem rowN_shift (s : List UInt8) (w : TL) : ∀ n, rowN (fun i => match i with | 0 => s | i + 1 => w i) (n + 1) = lenEnc s.length ++ s ++ rowN w n
  | 0 => by simp [rowN]
  | n + 1 => by
    have ih := rowN_shift s w n
    rw [rowN, ih]
    simp [rowN]
theorem rowN_list : ∀ (l : List (List UInt8)), rowN (atL l) l.length = rowL l
  | [] => rfl
  | s :: r => by
    simp only [rowL]
    rw [← rowN_list r, ← rowN_shift s (atL r) r.length]
    refine rowN_congr fun i hi => ?_
    cases i <;> rfl
/-- the four texts of an image's row -/
def four4 (a b c d : List UInt8) : TL := atL [a, b, c, d]
theorem bytes_ct (n m : Nat) (a c : TL) (z : List UInt8) (hn : n ≤ 100000000) (hm : m ≤ 100000000) (h1 : (rowN a n).length ≤ 1000000000) (h2 : (rowN c m).length ≤ 1000000000) (h3 : (rowL [hibi, rowN a n, rowN c m, z]).length ≤ 1000000000) :
    Ct Tryz.prog 15 [imgL n m a c z] (.str (rowL [hibi, rowN a n, rowN c m, z])) := by
  have e4 := rowN_list [hibi, rowN a n, rowN c m, z]
  refine Ct.enter Tryz.tabOk ft15 ?_
  refine DrawA.run Tryz.tabOk Tryz.mixed [0, 1, 3, 0, 8, 31, 0, 64, 255, 511, 1023] [8] rfl ?_
  refine ⟨_, ⟨LV.le.refl _, rfl⟩, ?_⟩
  refine ⟨_, ⟨LV.le.refl _, rfl⟩, ?_⟩
  refine ⟨_, Ct.callC (row_ct n a hn h1) rfl (leL.refl _) ⟨LV.le.refl _, rfl⟩, ?_⟩
  refine ⟨_, ⟨LV.le.refl _, rfl⟩, ?_⟩
  refine ⟨_, ⟨LV.le.refl _, rfl⟩, ?_⟩
  refine ⟨_, Ct.callC (row_ct m c hm h2) rfl (leL.refl _) ⟨LV.le.refl _, rfl⟩, ?_⟩
  refine ⟨_, ⟨LV.le.refl _, rfl⟩, ?_⟩
  refine ⟨_, ⟨LV.le.refl _, rfl⟩, ?_⟩
  refine ⟨_, _, ⟨LV.le.refl _, rfl⟩, ?_⟩
  refine ⟨_, Ct.callF (row_ct 4 (atL [hibi, rowN a n, rowN c m, z]) (by omega) (by rw [← e4] at h3; exact h3)) rfl ⟨_, _, rfl, LV.le.sl rfl fun i hi => ?_, rfl⟩ rfl ⟨LV.le.refl _, rfl⟩, ?_⟩
  · rcases (by omega : i = 0 ∨ i = 1 ∨ i = 2 ∨ i = 3) with rfl | rfl | rfl | rfl <;> rfl
  refine ⟨_, ⟨LV.le.refl _, rfl⟩, ?_⟩
  refine ⟨True.intro, ?_⟩
  exact ⟨LV.le.eq (congrArg LV.str e4), rfl⟩
end Go.Proofs.Aw
namespace Go.Proofs.Aw
open Go Go.Proofs Go.RowKit
set_option maxHeartbeats 8000000
set_option maxRecDepth 100000
theorem img_some {b z : List UInt8} {f g : List (List UInt8)} (h : img b = some (f, g, z)) : rowL [hibi, rowN (atL f) f.length, rowN (atL g) g.length, z] = b := by
  unfold img at h
  split at h
  · rename_i w x y z' hT
    split at h
    · rename_i hw
      split at h
      · rename_i f' g' hx hy
        injection h with h
        injection h with h1 h2
        injection h2 with h2 h3
        subst h1; subst h2; subst h3; subst hw
        rw [rowN_list, rowN_list, rdT_row x.length x _ (Nat.le_refl _) hx, rdT_row y.length y _ (Nat.le_refl _) hy]
        exact rdT_row b.length b _ (Nat.le_refl _) hT
      · cases h
    · cases h
  · cases h
def emptyB : List UInt8 := [4, 104, 105, 98, 105, 0, 0, 0]
theorem empty_row : rowL [hibi, [], [], []] = emptyB := by
  simp only [rowL, hibi, List.length_cons, List.length_nil]
  rw [lenEnc_lt (by decide), lenEnc_lt (by decide)]
  rfl
theorem img_empty : img emptyB = some ([], [], []) := rfl
theorem of_none (c : Int) (M0 M1 : Nat) (w0 w1 : TL) : Ct Tryz.prog 12 [.agg (macB c M0 M1 w0 w1)] (.agg [.v (.slice none 0 0), .v (.slice none 0 0), .str []]) := by
  refine Ct.enter Tryz.tabOk ft12 ?_
  refine Ct.callC (check_bad c M0 M1 w0 w1) rfl (leL.refl _) ?_
  refine ⟨fun h => ?_, fun h => absurd h (by decide)⟩
  exact ⟨LV.le.refl _, rfl⟩
def noW : TL := fun _ => []
theorem imgN : leL [LV.agg [.v (.slice none 0 0), .v (.slice none 0 0), .str []]] [imgL 0 0 noW noW []] := ⟨_, _, rfl, LV.le.agg ⟨_, _, rfl, LV.le.nil, _, _, rfl, LV.le.nil, _, _, rfl, LV.le.refl _, rfl⟩, rfl⟩
theorem empty4 : rowN (atL [hibi, [], [], []]) 4 = emptyB := by rw [← empty_row]; exact rowN_list [hibi, [], [], []]
theorem awake_ct : Ct Tryz.prog 11 [] (.v (.bool true)) := by
  refine Ct.enter Tryz.tabOk ft11 ?_
  refine Ct.callC (of_none 0 0 0 noW noW) rfl ⟨_, _, rfl, LV.le.agg ⟨_, _, rfl, LV.le.refl _, _, _, rfl, LV.le.refl _, _, _, rfl, LV.le.any _, _, _, rfl, LV.le.any _, _, _, rfl, LV.le.nil, _, _, rfl, LV.le.any _, _, _, rfl, LV.le.any _, _, _, rfl, LV.le.any _, _, _, rfl, LV.le.any _, _, _, rfl, LV.le.any _, _, _, rfl, LV.le.any _, _, _, rfl, LV.le.any _, _, _, rfl, LV.le.any _, _, _, rfl, LV.le.nil, _, _, rfl, LV.le.any _, _, _, rfl, LV.le.any _, _, _, rfl, LV.le.any _, rfl⟩, rfl⟩ ?_
  refine Ct.callC (iread_ct [] (by simp) none rfl) rfl (leL.refl _) ?_
  refine Ct.callC (bytes_ct 0 0 noW noW [] (by omega) (by omega) (by simp [rowN]) (by simp [rowN]) (by show (rowL [hibi, [], [], []]).length ≤ _; rw [empty_row]; decide)) rfl imgN ?_
  refine Ct.callC (args := [.str emptyB]) (iread_ct emptyB (by decide) _ img_empty) rfl ⟨_, _, rfl, LV.le.eq (congrArg LV.str empty_row), rfl⟩ ?_
  refine ⟨fun _ => ?_, fun h => absurd h (by decide)⟩
  refine ⟨fun _ => ?_, fun h => absurd h (by decide)⟩
  refine Ct.callF (row_ct 4 (atL [hibi, [], [], []]) (by omega) (by rw [empty4]; decide)) rfl ⟨_, _, rfl, LV.le.sl rfl fun i hi => ?_, rfl⟩ rfl ?_
  · rcases (by omega : i = 0 ∨ i = 1 ∨ i = 2 ∨ i = 3) with rfl | rfl | rfl | rfl <;> rfl
  refine ⟨fun _ => ?_, fun h => ?_⟩
  rotate_left
  · have h : (rowL [hibi, [], [], []] == rowN (atL [hibi, [], [], []]) 4) = false := h
    rw [empty4, empty_row] at h
    simp at h
  refine ⟨fun _ => ?_, fun h => absurd h (by decide)⟩
  refine Ct.callC (isame_ct 0 0 noW noW [] (by omega) (by omega)) rfl ⟨_, _, rfl, LV.le.agg ⟨_, _, rfl, LV.le.nil, _, _, rfl, LV.le.nil, _, _, rfl, LV.le.refl _, rfl⟩, _, _, rfl, LV.le.agg ⟨_, _, rfl, LV.le.sl rfl (fun i hi => absurd hi (by simp)), _, _, rfl, LV.le.sl rfl (fun i hi => absurd hi (by simp)), _, _, rfl, LV.le.refl _, rfl⟩, rfl⟩ ?_
  exact ⟨LV.le.refl _, rfl⟩
end Go.Proofs.Aw
