/- A PART OF THE PROOF: an abstract run of the loaded code over value trees, and the functions walked by it. No condition of its own. -/
import Derived.Test.YtanmknmlphkeaaaDoorA10
namespace Go.Proofs.Aw
open Go Go.RowKit

/-! ### not, minus; conversions -/
def unA (op : UnOp) (x : LV) (K : LV → Prop) : Prop := match op, x with
  | .not, .v (.bool true) => K (.v (.bool false))
  | .not, .v (.bool false) => K (.v (.bool true))
  | .not, .bs b => K (.bs (!b))
  | .neg, .v (.int k n) => K (.v (.int k (k.wrap (0 - n))))
  | .xor, .v (.int k n) => K (.v (.int k (bitsA .xor k (if k.signed then -1 else k.max) n)))
  | _, _ => False
theorem unA_sound {P : Program} {op : UnOp} {x : LV} {K : LV → Prop} {m : Me} {N : Nat} {y : Value} (h : unA op x K) (hr : Rep m N x y) (w : World) : ∃ r v, K r ∧ Rep m N r v ∧ (Op.unary op y).run P w = .ok v w := by
  unfold unA at h
  split at h
  · have : y = .bool true := hr
    subst this; exact ⟨_, _, h, rfl, rfl⟩
  · have : y = .bool false := hr
    subst this; exact ⟨_, _, h, rfl, rfl⟩
  · rename_i b
    have : y = .bool b := hr
    subst this; exact ⟨_, _, h, rfl, rfl⟩
  · rename_i k n
    have : y = .int k n := hr
    subst this; exact ⟨_, _, h, rfl, by simp [Op.unary, Op.intArith]⟩
  · rename_i k n
    have : y = .int k n := hr
    subst this; exact ⟨_, _, h, rfl, by simp [Op.unary, Op.intBits, bitsA]⟩
  · exact h.elim

/-- a byte of a cell -/
def byteCells (n : Nat) (g : Nat → List LV) (l : List UInt8) : Prop := l.length = n ∧ ∀ i, i < n → g i = [.v (.int .u8 ((l.getD i 0).toNat : Int))]

def convA (T : Tab) (st : St) (src dst : TypeId) (x : LV) (K : LV → Prop) : Prop := match T.find src, T.find dst with
  | some ts, some td => match td.k with
    | .int k => match x with
      | .v (.int _ n) => K (.v (.int k (k.wrap n)))
      | _ => False
    | .str => match x with
      | .str l => K (.str l)
      | .v (.slice none 0 0) => match ts.k with
        | .slice e => match T.find e with
          | some te => match te.k with
            | .int .u8 => K (.str [])
            | _ => False
          | none => False
        | _ => False
      | x => match ts.k with
        | .slice e => match T.find e with
          | some te => match te.k with
            | .int .u8 => rowA st x fun sz n g => ∃ l, byteCells n g l ∧ K (.str l)
            | _ => False
          | none => False
        | _ => False
    | _ => False
  | _, _ => False

theorem run_convert_str {P : Program} {src dst : TypeId} {d : TypeDesc} (hs : P.underlying src = some d) (hd : P.underlying dst = some .string) (s : ByteArray) (w : World) : (convert src dst (.string s)).run P w = .ok (.string s) w := by
  cases d <;> simp [convert, run_underlying hs, run_underlying hd]

theorem TK.ok_some {P : Program} {t : TypeId} {ti : TI} (h : ti.ok P t) : ∃ d, P.underlying t = some d := by
  obtain ⟨d, h1, _⟩ := h.d
  exact ⟨d, h1⟩

theorem run_convert_intk {P : Program} {src dst : TypeId} {d : TypeDesc} {k : IntKind} (hs : P.underlying src = some d) (hd : P.underlying dst = some (.int k)) (k0 : IntKind) (n : Int) (w : World) : (convert src dst (.int k0 n)).run P w = .ok (.int k (k.wrap n)) w := by
  cases d <;> simp [convert, run_underlying hs, run_underlying hd, Conv.intToInt]

theorem byte_news {m : Me} {y : Value} {n : Nat} {g : Nat → List LV} {news : List Value} {sz : Nat} (h : RowAt m y sz n g news) {l : List UInt8} (hl : byteCells n g l) : news = l.map fun b => Value.int .u8 (b.toNat : Int) := by
  have hsz : 0 < n → sz = 1 := fun h0 => by
    obtain ⟨ys, h1, h2, _⟩ := h.elems 0 h0
    rw [hl.2 0 h0] at h1
    obtain ⟨_, r, rfl, _, hr⟩ := h1
    rw [show r = [] from hr] at h2
    exact h2.symm
  apply List.ext_getElem?
  intro j
  by_cases hj : j < n
  · have hs1 := hsz (by omega)
    subst hs1
    obtain ⟨ys, h1, h2, h3⟩ := h.elems j hj
    rw [hl.2 j hj] at h1
    obtain ⟨y, r, rfl, h4, hr⟩ := h1
    have h4 : y = .int .u8 ((l.getD j 0).toNat : Int) := h4
    subst h4
    have hjl : j < l.length := by rw [hl.1]; exact hj
    have h5 := congrArg (fun z : List Value => z[0]?) h3
    simp only [Nat.mul_one, List.getElem?_take, List.getElem?_drop, Nat.add_zero, List.getElem?_cons_zero] at h5
    rw [if_pos (by omega)] at h5
    rw [h5]
    simp [List.getD, hjl]
  · have e1 : news[j]? = none := by
      apply List.getElem?_eq_none
      rw [h.len]
      rcases Nat.eq_zero_or_pos n with h0 | h0
      · subst h0; simp
      · rw [hsz h0]; omega
    rw [e1]
    symm
    apply List.getElem?_eq_none
    rw [List.length_map, hl.1]
    omega

theorem run_bytesToString {P : Program} {src dst e : TypeId} (hs : P.underlying src = some (.slice e)) (he : P.underlying e = some (.int .u8)) (hd : P.underlying dst = some .string) {m : Me} {y : Value} {n : Nat} {g : Nat → List LV} {news : List Value} {sz : Nat} (h : RowAt m y sz n g news) {l : List UInt8} (hl : byteCells n g l) :
    (convert src dst y).run P m.w = .ok (strV l) m.w := by
  have hn := byte_news h hl
  rcases h.val with ⟨h0, rfl⟩ | ⟨a, c, rfl, hc⟩
  · have : l = [] := List.eq_nil_of_length_eq_zero (by rw [hl.1, h0])
    subst this
    simp [convert, run_underlying hs, run_underlying hd, run_underlying he, Conv.bytesToString, strV]
    rfl
  · have hlen : l.length = n := hl.1
    rcases Nat.eq_zero_or_pos n with h0 | h0
    · subst h0
      have : l = [] := List.eq_nil_of_length_eq_zero hlen
      subst this
      simp [convert, run_underlying hs, run_underlying hd, run_underlying he, Conv.bytesToString, strV, loadCells, loadCellsFrom]
      rfl
    · have hsp : a.spot = none := by
        have h1 := hc 0 (.int .u8 ((l.getD 0 0).toNat : Int)) (by rw [hn]; cases l with
          | nil => simp at hlen; omega
          | cons x r => simp)
        have h2 : a.add 0 = a := rfl
        rw [h2] at h1
        unfold World.cell? at h1
        split at h1
        · split at h1
          · cases h1
          · rename_i h3; simpa using h3
        · cases h1
      obtain ⟨b, off, sp⟩ := a
      have hsp : sp = none := hsp
      subst hsp
      have hz := run_convert_bytes_arg (P := P) m.w src e hs he b off n c (l.map fun b => (b.toNat : Int)) (by simp [hlen]) (fun i hi => by
        have h1 := hc i (.int .u8 ((l.getD i 0).toNat : Int)) (by rw [hn]; simp [List.getD, show i < l.length by omega])
        rw [add_at] at h1
        rw [h1]
        simp [List.getD, show i < l.length by omega]) dst hd
      rw [hz]
      have hm : (l.map fun b => (b.toNat : Int)).map (fun n => UInt8.ofNat n.toNat) = l := by
        rw [List.map_map]
        conv => rhs; rw [← List.map_id l]
        apply List.map_congr_left
        intro b _
        simp
      simp only [strOfNums, strV, hm]

theorem convA_sound {P : Program} {T : Tab} (hT : T.Ok P) {st : St} {m : Me} {tm : Array Value} (hs : Sim st m tm) {src dst : TypeId} {x : LV} {K : LV → Prop} {y : Value} (h : convA T st src dst x K) (hr : Rep m st.next x y) :
    ∃ r v, K r ∧ Rep m st.next r v ∧ (convert src dst y).run P m.w = .ok v m.w := by
  unfold convA at h
  split at h
  rotate_left
  · exact h.elim
  rename_i ts td hts htd
  have hos := hT.find hts
  have hod := (hT.find htd).k
  obtain ⟨d, hd⟩ := TK.ok_some hos
  split at h
  · rename_i k hk
    rw [hk] at hod
    split at h
    · rename_i k0 n
      have : y = .int k0 n := hr
      subst this
      exact ⟨_, _, h, rfl, run_convert_intk hd hod k0 n m.w⟩
    · exact h.elim
  · rename_i hk
    rw [hk] at hod
    have bytes : ∀ (x : LV), (match ts.k with
        | .slice e => match T.find e with
          | some te => match te.k with
            | .int .u8 => rowA st x fun sz n g => ∃ l, byteCells n g l ∧ K (.str l)
            | _ => False
          | none => False
        | _ => False) → Rep m st.next x y → ∃ r v, K r ∧ Rep m st.next r v ∧ (convert src dst y).run P m.w = .ok v m.w := by
      intro x h hr
      split at h
      · rename_i e hke
        have hsk := hos.k
        rw [hke] at hsk
        split at h
        · rename_i te hte
          have hek := (hT.find hte).k
          split at h
          · rename_i hkk
            rw [hkk] at hek
            obtain ⟨sz, n, g, news, ⟨l, hl, h2⟩, hrow⟩ := rowA_sound hs h hr
            exact ⟨_, _, h2, rfl, run_bytesToString hsk hek hod hrow hl⟩
          · exact h.elim
        · exact h.elim
      · exact h.elim
    split at h
    · rename_i l
      have : y = strV l := hr
      subst this
      exact ⟨_, _, h, rfl, run_convert_str hd hod _ m.w⟩
    · split at h
      · rename_i e hke
        have hsk := hos.k
        rw [hke] at hsk
        split at h
        · rename_i te hte
          have hek := (hT.find hte).k
          split at h
          · rename_i hkk
            rw [hkk] at hek
            have : y = .slice none 0 0 := hr
            subst this
            refine ⟨_, strV [], h, rfl, ?_⟩
            simp [convert, run_underlying hsk, run_underlying hod, run_underlying hek, Conv.bytesToString, strV]
            rfl
          · exact h.elim
        · exact h.elim
      · exact h.elim
    · exact bytes _ h hr
  · exact h.elim
end Go.Proofs.Aw
