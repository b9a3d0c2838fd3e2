import Derived.Test.YtfbmlnkgjgnnhaaGreatDoorJA7
import Derived.MapKept

section
namespace Go.Proofs.YtfbmlnkgjgnnhaaGreatDoor
open Go.RowKit
set_option linter.unusedVariables false

theorem strV_eq {t : Drl.Str} {b : ByteArray} (h : b.data.toList = t) : strV t = .string b := by subst h; rfl
theorem exists_str (t : Drl.Str) : ∃ b : ByteArray, b.data.toList = t := ⟨⟨⟨t⟩⟩, rfl⟩
theorem toList_eq (b : ByteArray) (c : Drl.Str) : (b.toList == c) = decide (b.data.toList = c) := by
  rw [toList_data]
  by_cases h : b.data.toList = c
  · simp [h]
  · rw [decide_eq_false h]; simpa using h
theorem eq_yes {b : ByteArray} {t c : Drl.Str} (h : b.data.toList = t) (e : t = c) : (b.toList == c) = true := by rw [toList_eq, h]; simpa using e
theorem eq_no {b : ByteArray} {t c : Drl.Str} (h : b.data.toList = t) (e : t ≠ c) : (b.toList == c) = false := by rw [toList_eq, h]; simpa using e

/-- words at a block -/
def WordsIn (w : World) (b : Nat) (ws : List Drl.Str) : Prop := w.heap[b]? = some (.cells (ws.map strV).toArray 9 (0, 0))
theorem WordsIn.cell {w : World} {b : Nat} {ws : List Drl.Str} (h : WordsIn w b ws) (i : Nat) (hi : i < ws.length) : w.cell? ⟨b, i, none⟩ = some (strV (Drl.wd ws i)) := by
  refine cell_of h ?_
  simp [Drl.wd, hi]
theorem WordsIn.str {w : World} {b : Nat} {ws : List Drl.Str} (h : WordsIn w b ws) (i : Nat) (hi : i < ws.length) : ∃ s : ByteArray, s.data.toList = Drl.wd ws i ∧ w.cell? ⟨b, i, none⟩ = some (.string s) := by
  obtain ⟨s, hs⟩ := exists_str (Drl.wd ws i)
  exact ⟨s, hs, by rw [h.cell i hi, strV_eq hs]⟩
theorem WordsIn.keep {S : Nat → Prop} {es : TypeId → Prop} {w w' : World} {b : Nat} {ws : List Drl.Str} (h : WordsIn w b ws) (hk : Keep S es w w') (hS : ¬ S b) (he : ¬ es 9) : WordsIn w' b ws := hk.cells h hS he

/-- a line at cells o, o + 1, o + 2 of a block -/
structure LineAt (w : World) (g o : Nat) (x : Drl.Ln) : Prop where
  c0 : w.cell? ⟨g, o, none⟩ = some (.int .i64 x.at_)
  c1 : w.cell? ⟨g, o + 1, none⟩ = some (strV x.text)
  c2 : ∃ b, w.cell? ⟨g, o + 2, none⟩ = some (.slice (some ⟨b, 0, none⟩) x.ws.length x.ws.length) ∧ WordsIn w b x.ws

/-- lines at a block, from offset o on -/
def LinesIn (w : World) (g o : Nat) (l : List Drl.Ln) : Prop := ∀ i x, l[i]? = some x → LineAt w g (o + 3 * i) x

theorem lineCells_at {w : World} {g : Nat} : ∀ {cs : List Value} {l : List Drl.Ln} (o : Nat), LineCells w cs l → (∀ j u, cs[j]? = some u → w.cell? ⟨g, o + j, none⟩ = some u) → LinesIn w g o l
  | [], [], _, _, _ => fun i x h => by simp at h
  | c0 :: c1 :: c2 :: r, y :: l, o, ⟨h0, h1, ⟨b, h2, h2'⟩, h3⟩, hc => by
    intro i x hx
    cases i with
    | zero =>
      simp at hx; subst hx
      refine ⟨?_, ?_, b, ?_, h2'⟩
      · have := hc 0 c0 rfl; rw [h0] at this; exact this
      · have := hc 1 c1 rfl; rw [h1] at this; exact this
      · have := hc 2 c2 rfl; rw [h2] at this; exact this
    | succ i =>
      have := lineCells_at (o + 3) h3 (fun j u hj => by
        have := hc (j + 3) u (by simpa using hj)
        rw [show o + 3 + j = o + (j + 3) by omega]; exact this) i x (by simpa using hx)
      rw [show o + 3 * (i + 1) = o + 3 + 3 * i by omega]; exact this
  | [], _ :: _, _, h, _ => h.elim
  | [_], _, _, h, _ => by simp [LineCells] at h
  | [_, _], _, _, h, _ => by simp [LineCells] at h
  | _ :: _ :: _ :: _, [], _, h, _ => by simp [LineCells] at h

theorem LinesOwn.at_ {w : World} {B : Nat} {v : Value} {l : List Drl.Ln} (h : LinesOwn w B v l) : (v = .slice none 0 0 ∧ l = []) ∨ ∃ g cap, v = .slice (some ⟨g, 0, none⟩) l.length cap ∧ l.length ≤ cap ∧ g < w.heap.size ∧ LinesIn w g 0 l := by
  obtain ⟨cs, hown, hcs⟩ := h
  rcases hown.2 with ⟨hv, h0⟩ | ⟨g, cap, cur, hv, hb, hh, hn, _, _, _⟩
  · exact .inl ⟨hv, List.eq_nil_of_length_eq_zero h0⟩
  · refine .inr ⟨g, cap, hv, hn, lt_of hh, lineCells_at 0 hcs ?_⟩
    intro j u hj
    have := hown.cells (g := g) (by rw [hv]; rfl) j u hj
    have hadd : (⟨g, 0, none⟩ : Addr).add j = ⟨g, j, none⟩ := by unfold Addr.add; split <;> simp_all
    rw [hadd] at this
    rw [Nat.zero_add]; exact this

theorem LineAt.keep {S : Nat → Prop} {es : TypeId → Prop} {w w' : World} {g o : Nat} {x : Drl.Ln} (h : LineAt w g o x) (hk : Below w.heap.size w w') : LineAt w' g o x := by
  obtain ⟨h0, h1, b, h2, h3⟩ := h
  exact ⟨by rw [hk.cell (cell_lt h0)]; exact h0, by rw [hk.cell (cell_lt h1)]; exact h1, b, by rw [hk.cell (cell_lt h2)]; exact h2, (hk.block b (lt_of h3)).trans h3⟩
theorem LinesIn.keep {w w' : World} {g o : Nat} {l : List Drl.Ln} (h : LinesIn w g o l) (hk : Below w.heap.size w w') : LinesIn w' g o l :=
  fun i x hx => (h i x hx).keep (S := fun _ => False) (es := fun _ => False) hk
theorem LinesIn.tail {w : World} {g o : Nat} {x : Drl.Ln} {l : List Drl.Ln} (h : LinesIn w g o (x :: l)) : LinesIn w g (o + 3) l := fun i y hy => by
  have := h (i + 1) y (by simpa using hy)
  rw [show o + 3 + 3 * i = o + 3 * (i + 1) by omega]; exact this

theorem ret_ib {a b : Int} {c d : Bool} (h : a = b) (k : c = d) : Ending.returned (.tuple #[.int .i64 a, .bool c]) = .returned (.tuple #[.int .i64 b, .bool d]) := by rw [h, k]

theorem head_nil (lv : Value) (ao : Option Addr) (cap : Nat) (w : World) (hv : lv = .slice ao 0 cap) :
    Calls Tryz.prog 20 #[lv] w fun e w' => e = .returned (.tuple #[.int .i64 (Drl.headN []), .bool (Drl.headB [])]) ∧ w = w' := by
  subst hv
  go_enter Tryz.func20, Tryz.ntmps20
  go_wp2_with fail
  go_ret2
  exact ⟨rfl, rfl⟩

theorem head_bad {x : Drl.Ln} {r : List Drl.Ln} (h : ¬ (x.ws.length = 2 ∧ Drl.wd x.ws 0 = Drl.wClients)) : (0 : Int) = Drl.headN (x :: r) ∧ false = Drl.headB (x :: r) := by
  simp [Drl.headN, Drl.headB, h]
theorem head_good {x : Drl.Ln} {r : List Drl.Ln} (h : x.ws.length = 2 ∧ Drl.wd x.ws 0 = Drl.wClients) : Drl.numN (Drl.wd x.ws 1) = Drl.headN (x :: r) ∧ (Drl.numB (Drl.wd x.ws 1) 64 && decide (0 < Drl.numN (Drl.wd x.ws 1))) = Drl.headB (x :: r) := by
  simp [Drl.headN, Drl.headB, h]

set_option maxRecDepth 100000 in
set_option maxHeartbeats 1000000 in
theorem head_cons (g cap : Nat) (x : Drl.Ln) (r : List Drl.Ln) (w : World) (hL : LineAt w g 0 x) :
    Calls Tryz.prog 20 #[.slice (some ⟨g, 0, none⟩) (r.length + 1) cap] w fun e w' => e = .returned (.tuple #[.int .i64 (Drl.headN (x :: r)), .bool (Drl.headB (x :: r))]) ∧ Below w.heap.size w w' := by
  obtain ⟨_, _, b, h2, hW⟩ := hL
  simp only [Nat.zero_add] at h2
  by_cases hl : x.ws.length = 2
  · obtain ⟨s0, hs0, hc0⟩ := hW.str 0 (by omega)
    obtain ⟨s1, hs1, hc1⟩ := hW.str 1 (by omega)
    have HW := Lib.hid hW
    rw [hl] at h2
    by_cases h0 : Drl.wd x.ws 0 = Drl.wClients
    · have e0 := eq_yes hs0 h0
      have HG := Lib.hid (head_good (r := r) ⟨hl, h0⟩)
      have H1 := Lib.hid hs1
      clear hW hl h0 hs0 hs1
      unfold Drl.wClients at e0
      go_enter Tryz.func20, Tryz.ntmps20
      go_wp2_with fail
      refine (number_any s1 64 _).mono ?_
      rintro e w' ⟨rfl, hb⟩
      rw [H1.out]
      obtain ⟨hg1, hg2⟩ := HG.out
      generalize Drl.numN (Drl.wd x.ws 1) = N at hg1 hg2 ⊢
      generalize Drl.numB (Drl.wd x.ws 1) 64 = Bv at hg2 ⊢
      have G1 := Lib.hid hg1
      have G2 := Lib.hid hg2
      clear hg1 hg2 HG hc0 hc1 h2
      cases Bv
      · go_wp2_with fail
        go_ret2
        exact ⟨ret_ib G1.out (by rw [← G2.out]; rfl), hb⟩
      · go_wp2_with fail
        go_ret2
        exact ⟨ret_ib G1.out (by rw [← G2.out]; simp), hb⟩
    · have e0 := eq_no hs0 h0
      have HG := Lib.hid (head_bad (r := r) (fun e => h0 e.2))
      clear hW hl h0 hs0 hs1
      unfold Drl.wClients at e0
      go_enter Tryz.func20, Tryz.ntmps20
      go_wp2_with fail
      go_ret2
      exact ⟨ret_ib HG.out.1 HG.out.2, Below.refl _ _⟩
  · have HG := Lib.hid (head_bad (r := r) (fun e => hl e.1))
    have el : (((x.ws.length : Int)) != 2) = true := by simp [bne]; omega
    clear hW hl
    go_enter Tryz.func20, Tryz.ntmps20
    go_wp2_with fail
    go_ret2
    exact ⟨ret_ib HG.out.1 HG.out.2, Below.refl _ _⟩
end Go.Proofs.YtfbmlnkgjgnnhaaGreatDoor
end

section
namespace Go.Proofs.YtfbmlnkgjgnnhaaGreatDoor
open Go.RowKit

def nptr (ad : Nat → Nat) (i : Nat) : Value := .pointer (some ⟨ad i, 0, none⟩)

/-- the blocks that are open, and the letters of their nodes -/
structure OpenIn (w : World) (Rb g cap : Nat) (ad : Nat → Nat) (ar : List Drl.Nd) (opn : List Nat) : Prop where
  field : w.cell? ⟨Rb, 0, none⟩ = some (.slice (some ⟨g, 0, none⟩) opn.length cap)
  len : opn.length ≤ 70000
  ptr : ∀ i (hi : i < opn.length), w.cell? ⟨g, i, none⟩ = some (nptr ad opn[i])
  letter : ∀ i (hi : i < opn.length), w.cell? ⟨ad opn[i], 3, none⟩ = some (.int .u8 (Drl.nd ar opn[i]).letter.toNat)

theorem OpenIn.next {w w' : World} {Rb g cap : Nat} {ad : Nat → Nat} {ar : List Drl.Nd} {opn : List Nat} (h : OpenIn w Rb g cap ad ar opn) (hb : Below w.heap.size w w') : OpenIn w' Rb g cap ad ar opn :=
  ⟨by rw [hb.cell (cell_lt h.field)]; exact h.field, h.len, fun i hi => by rw [hb.cell (cell_lt (h.ptr i hi))]; exact h.ptr i hi, fun i hi => by rw [hb.cell (cell_lt (h.letter i hi))]; exact h.letter i hi⟩

theorem around_any_ (Rb g cap : Nat) (ad : Nat → Nat) (ar : List Drl.Nd) (opn : List Nat) (c : UInt8) (w : World) (h : OpenIn w Rb g cap ad ar opn) :
    Calls Tryz.prog 66 #[.pointer (some ⟨Rb, 0, none⟩), .int .u8 c.toNat] w fun e w' => e = .returned (.bool (Drl.around ar opn c)) ∧ w = w' := by
  have hf := h.field
  have hl := h.len
  have H := Lib.hid h
  clear h
  go_enter Tryz.func66, Tryz.ntmps66
  go_wp2_with fail
  go_loop [12] (fun i => ∃ k : Nat, k ≤ opn.length ∧ i = .int .i64 k ∧ Drl.around ar (opn.take k) c = false) (fun i => opn.length - (intOf i).toNat)
  case atStart => exact ⟨0, by omega, rfl, rfl⟩
  case round =>
    obtain ⟨k, hk, rfl, hno⟩ := hrel
    have HN := Lib.hid hno
    clear hno
    by_cases hlt : k < opn.length
    · have hp := H.out.ptr k hlt
      unfold nptr at hp
      have hq := H.out.letter k hlt
      have hsn : Drl.around ar (opn.take (k + 1)) c = (Drl.around ar (opn.take k) c || (Drl.nd ar opn[k]).letter == c) := by
        unfold Drl.around
        rw [List.take_succ_eq_append_getElem hlt, List.any_append]; simp
      have HS := Lib.hid hsn
      clear hsn
      by_cases e : (Drl.nd ar opn[k]).letter = c
      · have e1 : (((Drl.nd ar opn[k]).letter.toNat : Int) == (c.toNat : Int)) = true := by rw [e]; simp
        have hfin : true = Drl.around ar opn c := by
          unfold Drl.around
          rw [Eq.comm, List.any_eq_true]
          exact ⟨opn[k], List.getElem_mem _, by simpa using e⟩
        have HF := Lib.hid hfin
        have HE := Lib.hid e
        clear hfin e
        go_wp2_with fail
        go_ret
        exact ⟨ret_bool HF.out, rfl⟩
      · have e1 : (((Drl.nd ar opn[k]).letter.toNat : Int) == (c.toNat : Int)) = false := by
          rw [beq_eq_false_iff_ne]
          intro h
          exact e (UInt8.toNat_inj.1 (by omega))
        have HE := Lib.hid e
        clear e
        go_wp2_with fail
        go_round
        case rel => exact ⟨k + 1, by omega, by go_num, by rw [HS.out, HN.out]; simpa using HE.out⟩
        case measure => simp [intOf]; omega
    · go_wp2_with fail
      go_ret
      refine ⟨ret_bool ?_, rfl⟩
      have := HN.out
      rw [List.take_of_length_le (by omega)] at this
      exact this.symm

theorem two_bytes (s : ByteArray) (h : s.size = 2) : s.data.toList = [s[0]'(by omega), s[1]'(by omega)] := by
  apply List.ext_getElem
  · rw [size_len]; simpa using h
  · intro i h1 h2
    rw [get_list s i (by rw [size_len] at h1; exact h1)]
    rcases (show i = 0 ∨ i = 1 by simp at h2; omega) with rfl | rfl <;> rfl
theorem counts_else (ar : List Drl.Nd) (opn : List Nat) (s : ByteArray) (h : ¬ ∃ h2 : s.size = 2, ((s[0]'(by omega)).toNat : Int) = 36 ∧ Drl.letterB (s.extract 1 s.size).data.toList = true) : Drl.countsB ar opn s.data.toList = Drl.numB s.data.toList 1000 := by
  by_cases h2 : s.size = 2
  · have e := two_bytes s h2
    have e3 : (s.extract 1 s.size).data.toList = [s[1]'(by omega)] := by
      rw [Lib.extract_to_end, e]; rfl
    rw [e, Drl.countsB, if_neg]
    rintro ⟨h3, h4⟩
    exact h ⟨h2, by omega, by rw [e3]; exact h4⟩
  · unfold Drl.countsB
    split
    · rename_i d c hs
      exact absurd (by rw [← size_len, hs]; rfl) h2
    · rfl
theorem counts_then (ar : List Drl.Nd) (opn : List Nat) (s : ByteArray) (h2 : s.size = 2) (h0 : ((s[0]'(by omega)).toNat : Int) = 36) (hl : Drl.letterB (s.extract 1 s.size).data.toList = true) : Drl.countsB ar opn s.data.toList = Drl.around ar opn (s[1]'(by omega)) := by
  have e := two_bytes s h2
  have e3 : (s.extract 1 s.size).data.toList = [s[1]'(by omega)] := by
    rw [Lib.extract_to_end, e]; rfl
  rw [e3] at hl
  rw [e, Drl.countsB, if_pos ⟨by omega, hl⟩]

set_option maxRecDepth 100000 in
theorem counts_any (Rb g cap : Nat) (ad : Nat → Nat) (ar : List Drl.Nd) (opn : List Nat) (s : ByteArray) (w : World) (h : OpenIn w Rb g cap ad ar opn) :
    Calls Tryz.prog 64 #[.pointer (some ⟨Rb, 0, none⟩), .string s] w fun e w' => e = .returned (.bool (Drl.countsB ar opn s.data.toList)) ∧ Below w.heap.size w w' := by
  have H := Lib.hid h
  clear h
  by_cases hc : ∃ h2 : s.size = 2, ((s[0]'(by omega)).toNat : Int) = 36 ∧ Drl.letterB (s.extract 1 s.size).data.toList = true
  · obtain ⟨h2, h0, hl⟩ := hc
    have HC := Lib.hid (counts_then ar opn s h2 h0 hl)
    have e0 : (((s[0]'(by omega)).toNat : Int) == 36) = true := by simpa using h0
    rw [h2] at hl
    have HL := Lib.hid hl
    clear hl h0
    go_enter Tryz.func64, Tryz.ntmps64
    go_wp2_with fail
    refine (letter_any (s.extract 1 2) _).mono ?_
    rintro e w' ⟨rfl, rfl⟩
    rw [HL.out]
    go_wp2_with fail
    refine (around_any_ Rb g cap ad ar opn (s[1]'(by omega)) _ H.out).mono ?_
    rintro e w' ⟨rfl, rfl⟩
    go_wp2_with fail
    go_ret
    exact ⟨ret_bool HC.out.symm, Below.refl _ _⟩
  · have HC := Lib.hid (counts_else ar opn s hc)
    have hcases : ((s.size : Int) == 2) = false ∨ ∃ h2 : s.size = 2, (((s[0]'(by omega)).toNat : Int) == 36) = false ∨ ((((s[0]'(by omega)).toNat : Int) == 36) = true ∧ Drl.letterB (s.extract 1 2).data.toList = false) := by
      by_cases h2 : s.size = 2
      · refine .inr ⟨h2, ?_⟩
        by_cases h0 : ((s[0]'(by omega)).toNat : Int) = 36
        · refine .inr ⟨by simpa using h0, ?_⟩
          rw [Bool.eq_false_iff]
          intro hl
          exact hc ⟨h2, h0, by rw [h2]; exact hl⟩
        · exact .inl (by simpa using h0)
      · left; simp; omega
    clear hc
    rcases hcases with e2 | ⟨h2, e0 | ⟨e0, hl⟩⟩
    · go_enter Tryz.func64, Tryz.ntmps64
      go_wp2_with fail
      refine (number_any s 1000 _).mono ?_
      rintro e w' ⟨rfl, hb⟩
      go_wp2_with fail
      go_ret
      exact ⟨ret_bool HC.out.symm, hb⟩
    · go_enter Tryz.func64, Tryz.ntmps64
      go_wp2_with fail
      refine (number_any s 1000 _).mono ?_
      rintro e w' ⟨rfl, hb⟩
      go_wp2_with fail
      go_ret
      exact ⟨ret_bool HC.out.symm, hb⟩
    · have HL := Lib.hid hl
      clear hl
      go_enter Tryz.func64, Tryz.ntmps64
      go_wp2_with fail
      refine (letter_any (s.extract 1 2) _).mono ?_
      rintro e w' ⟨rfl, rfl⟩
      rw [HL.out]
      go_wp2_with fail
      refine (number_any s 1000 _).mono ?_
      rintro e w' ⟨rfl, hb⟩
      go_wp2_with fail
      go_ret
      exact ⟨ret_bool HC.out.symm, hb⟩
end Go.Proofs.YtfbmlnkgjgnnhaaGreatDoor
end

section
namespace Go.Proofs.YtfbmlnkgjgnnhaaGreatDoor
open Go.RowKit

/-! ### the names -/
def optPtr (ad : Nat → Nat) : Option Nat → Value
  | none => .pointer none
  | some i => nptr ad i
def MapIs (w : World) (M : Nat) (ad : Nat → Nat) (names : List (Drl.Str × Nat)) : Prop :=
  ∃ es clock, w.heap[M]? = some (.map es clock) ∧ es.toList.map (fun e => (e.key, e.val)) = names.map fun p => (strV p.1, nptr ad p.2)

theorem beq_bytes (a b : ByteArray) : (a == b) = (a.data.toList == b.data.toList) := by
  rw [Bool.eq_iff_iff, MapKept.bytes_beq]
  simp only [beq_iff_eq]
  constructor
  · rintro rfl; rfl
  · intro h; cases a; cases b; simp at h; rw [h]

theorem findNow_names (ad : Nat → Nat) (s : ByteArray) : ∀ (es : List MapEntry) (names : List (Drl.Str × Nat)) (i : Nat), es.map (fun e => (e.key, e.val)) = names.map (fun p => (strV p.1, nptr ad p.2)) →
    ∃ r, Instr.findNow .string (.string s) es i = some r ∧ r.map (·.2) = (Drl.look names s.data.toList).map (nptr ad)
  | [], [], i, _ => ⟨none, rfl, rfl⟩
  | [], _ :: _, _, h => by simp at h
  | _ :: _, [], _, h => by simp at h
  | e :: es, p :: names, i, h => by
    simp only [List.map_cons, List.cons.injEq, Prod.mk.injEq] at h
    obtain ⟨⟨hk, hv⟩, hr⟩ := h
    simp only [Instr.findNow, hk, strV, Instr.sameNow, beq_bytes]
    by_cases e1 : s.data.toList = p.1
    · have e2 : (s.data.toList == p.1) = true := by simpa using e1
      have e3 : (p.1 == s.data.toList) = true := by simpa using e1.symm
      rw [e2]
      refine ⟨some (i, e.val), rfl, ?_⟩
      simp only [Drl.look, List.find?_cons, e3, Option.map_some, hv]
    · have e2 : (s.data.toList == p.1) = false := by simpa using e1
      have e3 : (p.1 == s.data.toList) = false := by simpa using fun x => e1 x.symm
      rw [e2]
      obtain ⟨r, h1, h2⟩ := findNow_names ad s es names (i + 1) hr
      refine ⟨r, h1, ?_⟩
      rw [h2]
      simp only [Drl.look, List.find?_cons, e3]

theorem zero_pNode (w : World) : (zeroValue 50).run Tryz.prog w = .ok (.pointer none) w := by kernel_rfl

theorem lookup_names {w : World} {M : Nat} {ad : Nat → Nat} {names : List (Drl.Str × Nat)} (h : MapIs w M ad names) (s : ByteArray) :
    (Instr.lookup 93 (.map (some M)) (.string s) false).run Tryz.prog w = .ok (optPtr ad (Drl.look names s.data.toList)) w := by
  obtain ⟨es, clock, hM, hes⟩ := h
  obtain ⟨r, h1, h2⟩ := findNow_names ad s es.toList names 0 hes
  have hch : ∀ (b : Bool), (Instr.checkKey b 10000 9 (.string s)).run Tryz.prog w = .ok () w := fun b => MapKept.run_checkKey Tryz.underlying9 (by simp [MapKept.IsKey]) b 9999
  have hk := MapKept.run_findKey (w := w) Tryz.underlying9 h1
  simp only [Instr.lookup, Sem.run_bind, run_underlying Tryz.underlying93, Result.andThen, MapKept.run_getObj_map hM]
  cases hl : Drl.look names s.data.toList with
  | none =>
    rw [hl] at h2
    cases r with
    | none => simp [optPtr, hch, hk]
    | some q => simp at h2
  | some i =>
    rw [hl] at h2
    cases r with
    | none => simp at h2
    | some q => simp at h2; simp [optPtr, h2, hch, hk]

theorem update_names {w : World} {M : Nat} {ad : Nat → Nat} {names : List (Drl.Str × Nat)} (h : MapIs w M ad names) (s : ByteArray) (i : Nat) (hn : Drl.look names s.data.toList = none) :
    ∃ w', (Instr.mapUpdate 93 (.map (some M)) (.string s) (nptr ad i)).run Tryz.prog w = .ok () w' ∧ MapIs w' M ad (names ++ [(s.data.toList, i)]) ∧ ∃ o, w' = { w with heap := w.heap.setIfInBounds M o } := by
  obtain ⟨es, clock, hM, hes⟩ := h
  obtain ⟨r, h1, h2⟩ := findNow_names ad s es.toList names 0 hes
  rw [hn] at h2
  have hr : r = none := by simpa using h2
  subst hr
  have hch : ∀ (b : Bool), (Instr.checkKey b 10000 9 (.string s)).run Tryz.prog w = .ok () w := fun b => MapKept.run_checkKey Tryz.underlying9 (by simp [MapKept.IsKey]) b 9999
  have hk := MapKept.run_findKey (w := w) Tryz.underlying9 h1
  refine ⟨{ w with heap := w.heap.setIfInBounds M (.map (es.push { key := .string s, val := nptr ad i, born := clock }) (clock + 1)) }, ?_, ⟨es.push { key := .string s, val := nptr ad i, born := clock }, clock + 1, (MapKept.heap_set hM).1, ?_⟩, _, rfl⟩
  · simp [Instr.mapUpdate, run_underlying Tryz.underlying93, MapKept.run_getObj_map hM, hch, hk, MapKept.run_setObj_map _ hM, Result.andThen]
  · simp [hes, strV_data]
end Go.Proofs.YtfbmlnkgjgnnhaaGreatDoor
end
