import Derived.Test.YtfbmlnkgjgnnhaaGreatDoorA8
namespace Go.Proofs.YtfbmlnkgjgnnhaaGreatDoor
open Go.RowKit

def nptr (ad : Nat → Nat) (i : Nat) : Value := .pointer (some ⟨ad i, 0, none⟩)

/-- the blocks that are open, and the letters of their nodes -/
structure OpenIn (w : World) (Rb g cap : Nat) (ad : Nat → Nat) (ar : List Drl.Nd) (opn : List Nat) : Prop where
  field : w.cell? ⟨Rb, 0, none⟩ = some (.slice (some ⟨g, 0, none⟩) opn.length cap)
  len : opn.length ≤ 70000
  ptr : ∀ i (hi : i < opn.length), w.cell? ⟨g, i, none⟩ = some (nptr ad opn[i])
  letter : ∀ i (hi : i < opn.length), w.cell? ⟨ad opn[i], 3, none⟩ = some (.int .u8 (Drl.nd ar opn[i]).letter.toNat)

theorem OpenIn.next {w w' : World} {Rb g cap : Nat} {ad : Nat → Nat} {ar : List Drl.Nd} {opn : List Nat} (h : OpenIn w Rb g cap ad ar opn) (hb : Below w.heap.size w w') : OpenIn w' Rb g cap ad ar opn :=
  ⟨by rw [hb.cell (cell_lt h.field)]; exact h.field, h.len, fun i hi => by rw [hb.cell (cell_lt (h.ptr i hi))]; exact h.ptr i hi, fun i hi => by rw [hb.cell (cell_lt (h.letter i hi))]; exact h.letter i hi⟩

theorem around_any_ (Rb g cap : Nat) (ad : Nat → Nat) (ar : List Drl.Nd) (opn : List Nat) (c : UInt8) (w : World) (h : OpenIn w Rb g cap ad ar opn) :
    Calls Tryz.prog 66 #[.pointer (some ⟨Rb, 0, none⟩), .int .u8 c.toNat] w fun e w' => e = .returned (.bool (Drl.around ar opn c)) ∧ w = w' := by
  have hf := h.field
  have hl := h.len
  have H := Lib.hid h
  clear h
  go_enter Tryz.func66, Tryz.ntmps66
  go_wp2_with fail
  go_loop [12] (fun i => ∃ k : Nat, k ≤ opn.length ∧ i = .int .i64 k ∧ Drl.around ar (opn.take k) c = false) (fun i => opn.length - (intOf i).toNat)
  case atStart => exact ⟨0, by omega, rfl, rfl⟩
  case round =>
    obtain ⟨k, hk, rfl, hno⟩ := hrel
    have HN := Lib.hid hno
    clear hno
    by_cases hlt : k < opn.length
    · have hp := H.out.ptr k hlt
      unfold nptr at hp
      have hq := H.out.letter k hlt
      have hsn : Drl.around ar (opn.take (k + 1)) c = (Drl.around ar (opn.take k) c || (Drl.nd ar opn[k]).letter == c) := by
        unfold Drl.around
        rw [List.take_succ_eq_append_getElem hlt, List.any_append]; simp
      have HS := Lib.hid hsn
      clear hsn
      by_cases e : (Drl.nd ar opn[k]).letter = c
      · have e1 : (((Drl.nd ar opn[k]).letter.toNat : Int) == (c.toNat : Int)) = true := by rw [e]; simp
        have hfin : true = Drl.around ar opn c := by
          unfold Drl.around
          rw [Eq.comm, List.any_eq_true]
          exact ⟨opn[k], List.getElem_mem _, by simpa using e⟩
        have HF := Lib.hid hfin
        have HE := Lib.hid e
        clear hfin e
        go_wp2_with fail
        go_ret
        exact ⟨ret_bool HF.out, rfl⟩
      · have e1 : (((Drl.nd ar opn[k]).letter.toNat : Int) == (c.toNat : Int)) = false := by
          rw [beq_eq_false_iff_ne]
          intro h
          exact e (UInt8.toNat_inj.1 (by omega))
        have HE := Lib.hid e
        clear e
        go_wp2_with fail
        go_round
        case rel => exact ⟨k + 1, by omega, by go_num, by rw [HS.out, HN.out]; simpa using HE.out⟩
        case measure => simp [intOf]; omega
    · go_wp2_with fail
      go_ret
      refine ⟨ret_bool ?_, rfl⟩
      have := HN.out
      rw [List.take_of_length_le (by omega)] at this
      exact this.symm

theorem two_bytes (s : ByteArray) (h : s.size = 2) : s.data.toList = [s[0]'(by omega), s[1]'(by omega)] := by
  apply List.ext_getElem
  · rw [size_len]; simpa using h
  · intro i h1 h2
    rw [get_list s i (by rw [size_len] at h1; exact h1)]
    rcases (show i = 0 ∨ i = 1 by simp at h2; omega) with rfl | rfl <;> rfl
theorem counts_else (ar : List Drl.Nd) (opn : List Nat) (s : ByteArray) (h : ¬ ∃ h2 : s.size = 2, ((s[0]'(by omega)).toNat : Int) = 36 ∧ Drl.letterB (s.extract 1 s.size).data.toList = true) : Drl.countsB ar opn s.data.toList = Drl.numB s.data.toList 1000 := by
  by_cases h2 : s.size = 2
  · have e := two_bytes s h2
    have e3 : (s.extract 1 s.size).data.toList = [s[1]'(by omega)] := by
      rw [Lib.extract_to_end, e]; rfl
    rw [e, Drl.countsB, if_neg]
    rintro ⟨h3, h4⟩
    exact h ⟨h2, by omega, by rw [e3]; exact h4⟩
  · unfold Drl.countsB
    split
    · rename_i d c hs
      exact absurd (by rw [← size_len, hs]; rfl) h2
    · rfl
theorem counts_then (ar : List Drl.Nd) (opn : List Nat) (s : ByteArray) (h2 : s.size = 2) (h0 : ((s[0]'(by omega)).toNat : Int) = 36) (hl : Drl.letterB (s.extract 1 s.size).data.toList = true) : Drl.countsB ar opn s.data.toList = Drl.around ar opn (s[1]'(by omega)) := by
  have e := two_bytes s h2
  have e3 : (s.extract 1 s.size).data.toList = [s[1]'(by omega)] := by
    rw [Lib.extract_to_end, e]; rfl
  rw [e3] at hl
  rw [e, Drl.countsB, if_pos ⟨by omega, hl⟩]

set_option maxRecDepth 100000 in
theorem counts_any (Rb g cap : Nat) (ad : Nat → Nat) (ar : List Drl.Nd) (opn : List Nat) (s : ByteArray) (w : World) (h : OpenIn w Rb g cap ad ar opn) :
    Calls Tryz.prog 64 #[.pointer (some ⟨Rb, 0, none⟩), .string s] w fun e w' => e = .returned (.bool (Drl.countsB ar opn s.data.toList)) ∧ Below w.heap.size w w' := by
  have H := Lib.hid h
  clear h
  by_cases hc : ∃ h2 : s.size = 2, ((s[0]'(by omega)).toNat : Int) = 36 ∧ Drl.letterB (s.extract 1 s.size).data.toList = true
  · obtain ⟨h2, h0, hl⟩ := hc
    have HC := Lib.hid (counts_then ar opn s h2 h0 hl)
    have e0 : (((s[0]'(by omega)).toNat : Int) == 36) = true := by simpa using h0
    rw [h2] at hl
    have HL := Lib.hid hl
    clear hl h0
    go_enter Tryz.func64, Tryz.ntmps64
    go_wp2_with fail
    refine (letter_any (s.extract 1 2) _).mono ?_
    rintro e w' ⟨rfl, rfl⟩
    rw [HL.out]
    go_wp2_with fail
    refine (around_any_ Rb g cap ad ar opn (s[1]'(by omega)) _ H.out).mono ?_
    rintro e w' ⟨rfl, rfl⟩
    go_wp2_with fail
    go_ret
    exact ⟨ret_bool HC.out.symm, Below.refl _ _⟩
  · have HC := Lib.hid (counts_else ar opn s hc)
    have hcases : ((s.size : Int) == 2) = false ∨ ∃ h2 : s.size = 2, (((s[0]'(by omega)).toNat : Int) == 36) = false ∨ ((((s[0]'(by omega)).toNat : Int) == 36) = true ∧ Drl.letterB (s.extract 1 2).data.toList = false) := by
      by_cases h2 : s.size = 2
      · refine .inr ⟨h2, ?_⟩
        by_cases h0 : ((s[0]'(by omega)).toNat : Int) = 36
        · refine .inr ⟨by simpa using h0, ?_⟩
          rw [Bool.eq_false_iff]
          intro hl
          exact hc ⟨h2, h0, by rw [h2]; exact hl⟩
        · exact .inl (by simpa using h0)
      · left; simp; omega
    clear hc
    rcases hcases with e2 | ⟨h2, e0 | ⟨e0, hl⟩⟩
    · go_enter Tryz.func64, Tryz.ntmps64
      go_wp2_with fail
      refine (number_any s 1000 _).mono ?_
      rintro e w' ⟨rfl, hb⟩
      go_wp2_with fail
      go_ret
      exact ⟨ret_bool HC.out.symm, hb⟩
    · go_enter Tryz.func64, Tryz.ntmps64
      go_wp2_with fail
      refine (number_any s 1000 _).mono ?_
      rintro e w' ⟨rfl, hb⟩
      go_wp2_with fail
      go_ret
      exact ⟨ret_bool HC.out.symm, hb⟩
    · have HL := Lib.hid hl
      clear hl
      go_enter Tryz.func64, Tryz.ntmps64
      go_wp2_with fail
      refine (letter_any (s.extract 1 2) _).mono ?_
      rintro e w' ⟨rfl, rfl⟩
      rw [HL.out]
      go_wp2_with fail
      refine (number_any s 1000 _).mono ?_
      rintro e w' ⟨rfl, hb⟩
      go_wp2_with fail
      go_ret
      exact ⟨ret_bool HC.out.symm, hb⟩
end Go.Proofs.YtfbmlnkgjgnnhaaGreatDoor
