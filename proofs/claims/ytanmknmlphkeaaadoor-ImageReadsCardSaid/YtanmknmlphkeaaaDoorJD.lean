/- A PART OF THE PROOF: an abstract run of the loaded code over value trees, and the functions walked by it. No condition of its own. -/
import Derived.Test.YtanmknmlphkeaaaDoorJC
namespace Go.Proofs.Aw
open Go Go.Proofs Go.RowKit
set_option maxHeartbeats 8000000
set_option maxRecDepth 100000
def hibi : List UInt8 := [104, 105, 98, 105]
/-- the image of bytes, or none -/
def img (b : List UInt8) : Option (List (List UInt8) × List (List UInt8) × List UInt8) := match rdT b with
  | .ok [w, x, y, z] => if w = hibi then (match rdT x, rdT y with
    | .ok f, .ok g => some (f, g, z)
    | _, _ => none) else none
  | _ => none
def imgRes : Option (List (List UInt8) × List (List UInt8) × List UInt8) → LV
  | none => .tup [.agg [.v (.slice none 0 0), .v (.slice none 0 0), .str []], .v (.int .i64 3)]
  | some (f, g, z) => .tup [.agg [txL f, txL g, .str z], .v (.int .i64 0)]
theorem img_bad {b : List UInt8} {e : Int} (h : rdT b = .bad e) : img b = none := by unfold img; rw [h]
theorem img_len {b : List UInt8} {l : List (List UInt8)} (h : rdT b = .ok l) (hl : l.length ≠ 4) : img b = none := by
  unfold img; rw [h]
  match l with
  | [] => rfl
  | [_] => rfl
  | [_, _] => rfl
  | [_, _, _] => rfl
  | [_, _, _, _] => simp at hl
  | _ :: _ :: _ :: _ :: _ :: _ => rfl
theorem img_word {b w x y z : List UInt8} (h : rdT b = .ok [w, x, y, z]) (hw : w ≠ hibi) : img b = none := by unfold img; rw [h]; exact if_neg hw
theorem img_x {b w x y z : List UInt8} {e : Int} (h : rdT b = .ok [w, x, y, z]) (hx : rdT x = .bad e) : img b = none := by
  unfold img; rw [h]; simp only [hx]; exact ite_self none
theorem img_y {b w x y z : List UInt8} {e : Int} (h : rdT b = .ok [w, x, y, z]) (hy : rdT y = .bad e) : img b = none := by
  unfold img; rw [h]; simp only [hy]; cases rdT x <;> exact ite_self none
theorem img_ok {b x y z : List UInt8} {f g : List (List UInt8)} (h : rdT b = .ok [hibi, x, y, z]) (hx : rdT x = .ok f) (hy : rdT y = .ok g) : img b = some (f, g, z) := by
  unfold img; rw [h]; simp only [hx, hy]; simp
theorem four {l : List (List UInt8)} (h : l.length = 4) : ∃ w x y z, l = [w, x, y, z] := by
  match l, h with
  | [w, x, y, z], _ => exact ⟨w, x, y, z, rfl⟩
theorem row_mem {l : List (List UInt8)} {x : List UInt8} (h : x ∈ l) : x.length ≤ (rowL l).length := by
  induction l with
  | nil => cases h
  | cons s r ih =>
    simp only [rowL, List.length_append]
    rcases List.mem_cons.1 h with rfl | h
    · omega
    · have := ih h; omega
theorem rdT_mem {b x : List UInt8} {l : List (List UInt8)} (h : rdT b = .ok l) (hx : x ∈ l) : x.length ≤ b.length := by
  have := rdT_row b.length b l (Nat.le_refl _) h
  have h2 := row_mem hx
  rw [this] at h2; exact h2
theorem neT {a b : List UInt8} (h : (a != b) = true) : a ≠ b := by simpa using h
theorem neF {a b : List UInt8} (h : (a != b) = false) : a = b := by simpa using h
theorem iread_ct (b : List UInt8) (hb : b.length ≤ 100000000) (R : Option (List (List UInt8) × List (List UInt8) × List UInt8)) (hR : img b = R) : Ct Tryd.prog 7 [.str b] (imgRes R) := by
  refine Ct.enter Tryd.tabOk ft7 ?_
  cases hT : rdT b with
  | bad e =>
    have he := rdT_bads hT
    refine Ct.callC (texts_ct b hb _ hT) rfl (leL.refl _) ?_
    refine ⟨fun _ => ?_, fun h => ?_⟩
    · rw [img_bad hT] at hR
      subst hR
      exact ⟨LV.le.refl _, rfl⟩
    · have h : (e != 0) = false := h
      have h0 : e = 0 := by simpa using h
      omega
  | ok l =>
    refine Ct.callC (texts_ct b hb _ hT) rfl (leL.refl _) ?_
    refine ⟨fun h => absurd h (by decide), fun _ => ⟨fun h => ?_, fun h => ?_⟩⟩
    · have h : ((l.length : Int) != 4) = true := h
      have h : (l.length : Int) ≠ 4 := by simpa using h
      rw [img_len hT (by omega)] at hR
      subst hR
      exact ⟨LV.le.refl _, rfl⟩
    · have h : ((l.length : Int) != 4) = false := h
      have h : (l.length : Int) = 4 := by simpa using h
      obtain ⟨w, x, y, z, rfl⟩ := four (l := l) (by omega)
      clear h
      refine ⟨⟨by decide, by simp⟩, ⟨fun hw => ?_, fun hw => ?_⟩⟩
      · have hw : (w != hibi) = true := hw
        rw [img_word hT (neT hw)] at hR
        subst hR
        exact ⟨LV.le.refl _, rfl⟩
      · have hw : (w != hibi) = false := hw
        obtain rfl : w = hibi := neF hw
        have lx := rdT_mem hT (x := x) (by simp)
        have ly := rdT_mem hT (x := y) (by simp)
        refine ⟨⟨by decide, by simp⟩, ?_⟩
        cases hx : rdT x with
        | bad e =>
          have he := rdT_bads hx
          rw [img_x hT hx] at hR
          subst hR
          refine Ct.callC (texts_ct x (by omega) _ hx) rfl (leL.refl _) ?_
          refine ⟨⟨by decide, by simp⟩, ?_⟩
          cases hy : rdT y with
          | bad e2 =>
            refine Ct.callC (texts_ct y (by omega) _ hy) rfl (leL.refl _) ?_
            refine ⟨fun _ => ?_, fun h => ?_⟩
            · exact ⟨LV.le.refl _, rfl⟩
            · have h : (e != 0) = false := h
              have h0 : e = 0 := by simpa using h
              omega
          | ok g =>
            refine Ct.callC (texts_ct y (by omega) _ hy) rfl (leL.refl _) ?_
            refine ⟨fun _ => ?_, fun h => ?_⟩
            · exact ⟨LV.le.refl _, rfl⟩
            · have h : (e != 0) = false := h
              have h0 : e = 0 := by simpa using h
              omega
        | ok f =>
          refine Ct.callC (texts_ct x (by omega) _ hx) rfl (leL.refl _) ?_
          refine ⟨⟨by decide, by simp⟩, ?_⟩
          cases hy : rdT y with
          | bad e2 =>
            have he := rdT_bads hy
            rw [img_y hT hy] at hR
            subst hR
            refine Ct.callC (texts_ct y (by omega) _ hy) rfl (leL.refl _) ?_
            refine ⟨fun h => absurd h (by decide), fun _ => ⟨fun _ => ?_, fun h => ?_⟩⟩
            · exact ⟨LV.le.refl _, rfl⟩
            · have h : (e2 != 0) = false := h
              have h0 : e2 = 0 := by simpa using h
              omega
          | ok g =>
            rw [img_ok hT hx hy] at hR
            subst hR
            refine Ct.callC (texts_ct y (by omega) _ hy) rfl (leL.refl _) ?_
            refine ⟨fun h => absurd h (by decide), fun _ => ⟨fun h => absurd h (by decide), fun _ => ?_⟩⟩
            refine ⟨⟨by decide, by simp⟩, ?_⟩
            exact ⟨LV.le.refl _, rfl⟩
end Go.Proofs.Aw
namespace Go.Proofs.Aw
open Go Go.Proofs Go.RowKit
set_option maxHeartbeats 8000000
set_option maxRecDepth 100000
/-- the document's cursor, of which nothing is right -/
def noT : LV := .agg [.v (.slice none 0 0), .v (.bool true)]
theorem of_bad_ct (b : List UInt8) (n : Int) (hb : b.length ≤ 100000000) {e : Int} (hT : rdT b = .bad e) : Ct Tryd.prog 20 [.str b, .v (.int .i64 n)] noT := by
  have he := rdT_bads hT
  refine Ct.enter Tryd.tabOk ft20 ?_
  refine Ct.callC (rtexts_ct b hb _ hT) rfl (leL.refl _) ?_
  refine ⟨fun _ => ?_, fun h => ?_⟩
  · exact ⟨LV.le.refl _, rfl⟩
  · have h : (e != 0) = false := h
    have h0 : e = 0 := by simpa using h
    omega
theorem of_len_ct (b : List UInt8) (hb : b.length ≤ 100000000) {l : List (List UInt8)} (hT : rdT b = .ok l) (hl : l.length ≠ 4) : Ct Tryd.prog 20 [.str b, .v (.int .i64 4)] noT := by
  refine Ct.enter Tryd.tabOk ft20 ?_
  refine Ct.callC (rtexts_ct b hb _ hT) rfl (leL.refl _) ?_
  refine ⟨fun h => absurd h (by decide), fun _ => ⟨fun _ => ⟨fun _ => ?_, fun h => ?_⟩, fun h => absurd h (by decide)⟩⟩
  · exact ⟨LV.le.refl _, rfl⟩
  · have h : ((l.length : Int) != 4) = false := h
    have h0 : (l.length : Int) = 4 := by simpa using h
    omega
theorem of_four_ct (b : List UInt8) (hb : b.length ≤ 100000000) {w x y z : List UInt8} (hT : rdT b = .ok [w, x, y, z]) : Ct Tryd.prog 20 [.str b, .v (.int .i64 4)] (.agg [txL [w, x, y, z], .v (.bool false)]) := by
  refine Ct.enter Tryd.tabOk ft20 ?_
  refine Ct.callC (rtexts_ct b hb _ hT) rfl (leL.refl _) ?_
  refine ⟨fun h => absurd h (by decide), fun _ => ⟨fun _ => ⟨fun h => ?_, fun _ => ?_⟩, fun h => absurd h (by decide)⟩⟩
  · have h : ((([w, x, y, z] : List (List UInt8)).length : Int) != 4) = true := h
    simp at h
  · exact ⟨LV.le.refl _, rfl⟩
theorem of_all_ct (b : List UInt8) (hb : b.length ≤ 100000000) {l : List (List UInt8)} (hT : rdT b = .ok l) : Ct Tryd.prog 20 [.str b, .v (.int .i64 (-1))] (.agg [txL l, .v (.bool false)]) := by
  refine Ct.enter Tryd.tabOk ft20 ?_
  refine Ct.callC (rtexts_ct b hb _ hT) rfl (leL.refl _) ?_
  refine ⟨fun h => absurd h (by decide), fun _ => ⟨fun h => absurd h (by decide), fun _ => ?_⟩⟩
  exact ⟨LV.le.refl _, rfl⟩
theorem text_none_ct : Ct Tryd.prog 21 [noT] (.tup [noT, .str []]) := by
  refine Ct.enter Tryd.tabOk ft21 ?_
  refine ⟨fun _ => ?_, fun h => absurd h (by decide)⟩
  exact ⟨LV.le.refl _, rfl⟩
theorem text_ct (n : Nat) (w : TL) (bad : Bool) (hn : n ≤ 1000000) : Ct Tryd.prog 21 [.agg [.sl 1 (n + 1) (tx w), .v (.bool bad)]] (.tup [.agg [.sl 1 n (tx fun j => w (j + 1)), .v (.bool bad)], .str (w 0)]) := by
  refine Ct.enter Tryd.tabOk ft21 ?_
  refine ⟨fun h => ?_, fun _ => ?_⟩
  · have h : (((n + 1 : Nat) : Int) == 0) = true := h
    have := eqI h
    omega
  · refine ⟨⟨by decide, by omega⟩, ⟨by decide, by omega, Int.le_refl _⟩, ?_⟩
    exact ⟨LV.le.tup ⟨_, _, rfl, LV.le.agg ⟨_, _, rfl, LV.le.sl (by simp) (fun i hi => congrArg (fun k => [LV.str (w k)]) (Nat.add_comm 1 i)), _, _, rfl, LV.le.refl _, rfl⟩, _, _, rfl, LV.le.refl _, rfl⟩, rfl⟩
end Go.Proofs.Aw
namespace Go.Proofs.Aw
open Go Go.Proofs Go.RowKit
set_option maxHeartbeats 8000000
set_option maxRecDepth 100000
theorem rread_ct (b : List UInt8) (hb : b.length ≤ 100000000) (R : Option (List (List UInt8) × List (List UInt8) × List UInt8)) (hR : img b = R) : Ct Tryd.prog 8 [.str b] (imgRes R) := by
  refine Ct.enter Tryd.tabOk ft8 ?_
  cases hT : rdT b with
  | bad e =>
    rw [img_bad hT] at hR
    subst hR
    refine Ct.callC (of_bad_ct b 4 hb hT) rfl (leL.refl _) ?_
    refine Ct.callC text_none_ct rfl (leL.refl _) ?_
    refine Ct.callC text_none_ct rfl (leL.refl _) ?_
    refine Ct.callC text_none_ct rfl (leL.refl _) ?_
    refine Ct.callC text_none_ct rfl (leL.refl _) ?_
    refine Ct.callC (of_all_ct [] (by simp) rdT_nil) rfl (leL.refl _) ?_
    refine Ct.callC (of_all_ct [] (by simp) rdT_nil) rfl (leL.refl _) ?_
    exact ⟨LV.le.refl _, rfl⟩
  | ok l =>
    by_cases hl : l.length = 4
    · obtain ⟨w, x, y, z, rfl⟩ := four hl
      clear hl
      have lx := rdT_mem hT (x := x) (by simp)
      have ly := rdT_mem hT (x := y) (by simp)
      refine Ct.callC (of_four_ct b hb hT) rfl (leL.refl _) ?_
      refine Ct.callC (text_ct 3 (atL [w, x, y, z]) false (by omega)) rfl (leL.refl _) ?_
      refine Ct.callC (text_ct 2 _ false (by omega)) rfl (leL.refl _) ?_
      refine Ct.callC (text_ct 1 _ false (by omega)) rfl (leL.refl _) ?_
      refine Ct.callC (text_ct 0 _ false (by omega)) rfl (leL.refl _) ?_
      cases hx : rdT x with
      | bad e =>
        rw [img_x hT hx] at hR
        subst hR
        refine Ct.callC (of_bad_ct x (-1) (by omega) hx) rfl (leL.refl _) ?_
        cases hy : rdT y with
        | bad e2 =>
          refine Ct.callC (of_bad_ct y (-1) (by omega) hy) rfl (leL.refl _) ?_
          exact ⟨LV.le.refl _, rfl⟩
        | ok g =>
          refine Ct.callC (of_all_ct y (by omega) hy) rfl (leL.refl _) ?_
          exact ⟨LV.le.refl _, rfl⟩
      | ok f =>
        refine Ct.callC (of_all_ct x (by omega) hx) rfl (leL.refl _) ?_
        cases hy : rdT y with
        | bad e2 =>
          rw [img_y hT hy] at hR
          subst hR
          refine Ct.callC (of_bad_ct y (-1) (by omega) hy) rfl (leL.refl _) ?_
          exact ⟨LV.le.refl _, rfl⟩
        | ok g =>
          refine Ct.callC (of_all_ct y (by omega) hy) rfl (leL.refl _) ?_
          refine ⟨fun hw => ?_, fun hw => ?_⟩
          · have hw : (w != hibi) = true := hw
            rw [img_word hT (neT hw)] at hR
            subst hR
            exact ⟨LV.le.refl _, rfl⟩
          · have hw : (w != hibi) = false := hw
            obtain rfl : w = hibi := neF hw
            rw [img_ok hT hx hy] at hR
            subst hR
            exact ⟨LV.le.refl _, rfl⟩
    · rw [img_len hT hl] at hR
      subst hR
      refine Ct.callC (of_len_ct b hb hT hl) rfl (leL.refl _) ?_
      refine Ct.callC text_none_ct rfl (leL.refl _) ?_
      refine Ct.callC text_none_ct rfl (leL.refl _) ?_
      refine Ct.callC text_none_ct rfl (leL.refl _) ?_
      refine Ct.callC text_none_ct rfl (leL.refl _) ?_
      refine Ct.callC (of_all_ct [] (by simp) rdT_nil) rfl (leL.refl _) ?_
      refine Ct.callC (of_all_ct [] (by simp) rdT_nil) rfl (leL.refl _) ?_
      exact ⟨LV.le.refl _, rfl⟩
end Go.Proofs.Aw
