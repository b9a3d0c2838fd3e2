import Derived.Test.YtfbmlnkgjgnnhaaGreatDoorJA1
import Derived.Test.YtfbmlnkgjgnnhaaGreatDoorJP10
import Derived.Test.YtfbmlnkgjgnnhaaGreatDoorJA8
import Derived.Test.YtfbmlnkgjgnnhaaGreatDoorJP0
import Derived.Laws.IdiomStrings
set_option linter.unusedSimpArgs false
set_option linter.unusedVariables false

section
namespace Go.Proofs.YtfbmlnkgjgnnhaaGreatDoor
open Go.RowKit

theorem letter_some {s : ByteArray} (h : s.size = 1) (h1 : 97 ≤ ((s[0]'(by omega)).toNat : Int)) (h2 : ((s[0]'(by omega)).toNat : Int) ≤ 122) : Drl.rlet s.data.toList = ((s[0]'(by omega)).toNat : Int) - 97 := by
  have hb : Drl.letterB s.data.toList = true := by rw [letterB_eq, dif_pos h]; simp; omega
  rw [Drl.rlet, if_pos hb, head_get s (by omega)]
theorem letter_none {s : ByteArray} (h : s.size ≠ 1) : Drl.rlet s.data.toList = -1 := by
  have hb : Drl.letterB s.data.toList = false := by rw [letterB_eq, dif_neg h]
  rw [Drl.rlet, hb]; rfl
theorem letter_low {s : ByteArray} (h : s.size = 1) (h1 : ((s[0]'(by omega)).toNat : Int) < 97 ∨ 122 < ((s[0]'(by omega)).toNat : Int)) : Drl.rlet s.data.toList = -1 := by
  have hb : Drl.letterB s.data.toList = false := by rw [letterB_eq, dif_pos h]; simp; omega
  rw [Drl.rlet, hb]; rfl

theorem rletter_any (s : ByteArray) (w : World) :
    Calls Tryz.prog 50 #[.string s] w fun r w' => r = .returned (.int .i64 (Drl.rlet s.data.toList)) ∧ w = w' := by
  by_cases h : s.size = 1
  · have h0 : 0 < s.size := by omega
    by_cases h1 : ((s[0]'h0).toNat : Int) < 97
    · have H := Lib.hid (letter_low h (.inl h1))
      go_enter Tryz.func50, Tryz.ntmps50
      go_wp2
      go_ret
      exact ⟨ret_int H.out.symm, rfl⟩
    · by_cases h2 : 122 < ((s[0]'h0).toNat : Int)
      · have H := Lib.hid (letter_low h (.inr h2))
        go_enter Tryz.func50, Tryz.ntmps50
        go_wp2
        go_ret
        exact ⟨ret_int H.out.symm, rfl⟩
      · have H := Lib.hid (letter_some h (by omega) (by omega))
        have hw : IntKind.u8.wrap (((s[0]'h0).toNat : Int) - 97) = ((s[0]'h0).toNat : Int) - 97 := by
          simp only [IntKind.wrap, IntKind.bits, IntKind.signed]; simp; omega
        have hw2 : IntKind.i64.wrap (((s[0]'h0).toNat : Int) - 97) = ((s[0]'h0).toNat : Int) - 97 := IntWalk.i64_in _ (by omega)
        go_enter Tryz.func50, Tryz.ntmps50
        go_wp2
        go_ret
        exact ⟨ret_int H.out.symm, rfl⟩
  · have H := Lib.hid (letter_none h)
    go_enter Tryz.func50, Tryz.ntmps50
    go_wp2
    go_ret
    exact ⟨ret_int H.out.symm, rfl⟩

theorem named_short (s : ByteArray) (h : s.size < 1 ∨ 12 < s.size) : Drl.namedB s.data.toList = false := by
  rw [Bool.eq_false_iff]
  intro e
  simp only [Drl.namedB, Bool.and_eq_true, decide_eq_true_eq, size_len] at e
  omega

theorem rnamed_any (s : ByteArray) (w : World) :
    Calls Tryz.prog 70 #[.string s] w fun r w' => r = .returned (.bool (Drl.namedB s.data.toList)) ∧ w = w' := by
  by_cases h1 : s.size < 1
  · have H := Lib.hid (named_short s (.inl h1))
    go_enter Tryz.func70, Tryz.ntmps70
    go_wp2
    go_ret
    exact ⟨ret_bool H.out.symm, rfl⟩
  by_cases h12 : 12 < s.size
  · have H := Lib.hid (named_short s (.inr h12))
    go_enter Tryz.func70, Tryz.ntmps70
    go_wp2
    go_ret
    exact ⟨ret_bool H.out.symm, rfl⟩
  go_enter Tryz.func70, Tryz.ntmps70
  go_wp2
  go_loopw [3] (fun i wr => ∃ k : Nat, k ≤ s.size ∧ i = .int .i64 k ∧ wr = w ∧ ∀ j (hj : j < s.size), j < k → Drl.isLet (s[j]'hj) = true) (fun i _ => s.size - (intOf i).toNat)
  case atStart => exact ⟨0, by omega, rfl, rfl, fun _ _ h => by omega⟩
  case round =>
    obtain ⟨k, hk, rfl, rfl, hall⟩ := hrel
    by_cases hlt : k < s.size
    · have HA := Lib.hid hall
      clear hall
      by_cases hlo : ((s[k]'hlt).toNat : Int) < 97
      · have H := Lib.hid (namedB_false s k hlt (by simp only [Drl.isLet]; simp; omega))
        go_wp2
        go_ret
        exact ⟨ret_bool H.out.symm, rfl⟩
      · by_cases hhi : 122 < ((s[k]'hlt).toNat : Int)
        · have H := Lib.hid (namedB_false s k hlt (by simp only [Drl.isLet]; simp; omega))
          go_wp2
          go_ret
          exact ⟨ret_bool H.out.symm, rfl⟩
        · have hl : Drl.isLet (s[k]'hlt) = true := by simp only [Drl.isLet]; simp; omega
          have hw1 : IntKind.i64.wrap ((k : Int) + 1) = (k : Int) + 1 := IntWalk.i64_in _ (by omega)
          go_wp2
          go_round
          case rel =>
            refine ⟨k + 1, by omega, by go_num, (by first | rfl | trivial), fun j hj hjk => ?_⟩
            by_cases e : j = k
            · subst e; exact hl
            · exact HA.out j hj (by omega)
          case measure => simp only [intOf]; omega
    · have H := Lib.hid (namedB_all s (fun j hj => hall j hj (by omega)))
      clear hall
      go_wp2
      go_ret
      exact ⟨ret_bool (by rw [H.out, decide_eq_true (show 1 ≤ s.size by omega), decide_eq_true (show s.size ≤ 12 by omega)]; rfl), rfl⟩
end Go.Proofs.YtfbmlnkgjgnnhaaGreatDoor
end

section
namespace Go.Proofs.YtfbmlnkgjgnnhaaGreatDoor
open Go.RowKit
set_option linter.unusedVariables false

theorem rnum_bad {s : ByteArray} (h : Drl.numOk s.data.toList = false) : (-1 : Int) = Drl.rnum s.data.toList := by rw [Drl.rnum, h]; rfl
theorem rnum_ok {s : ByteArray} (h : Drl.numOk s.data.toList = true) : (Drl.numVal s.data.toList : Int) = Drl.rnum s.data.toList := by rw [Drl.rnum, h]; rfl
theorem numVal_take (s : ByteArray) (k : Nat) (h : k < s.size) : Drl.numVal (s.data.toList.take (k + 1)) = Drl.numVal (s.data.toList.take k) * 10 + ((s[k]'h).toNat - 48) := by
  rw [List.take_add_one, List.getElem?_eq_getElem (by rw [size_len]; exact h), get_list s k h]
  simp [Drl.numVal]
theorem numVal_small (s : ByteArray) (k : Nat) (hk : k ≤ 6) (h : ∀ j (hj : j < s.size), j < k → Drl.isDig (s[j]'hj) = true) : Drl.numVal (s.data.toList.take k) < 1000000 := by
  have hd : (s.data.toList.take k).all Drl.isDig = true := by
    rw [List.all_eq_true]
    intro x hx
    obtain ⟨j, hj, rfl⟩ := List.getElem_of_mem hx
    rw [List.length_take, size_len] at hj
    rw [List.getElem_take, get_list s j (by omega)]
    exact h j (by omega) (by omega)
  have := Drl.numVal_lt_aux _ 0 hd
  have h10 : 10 ^ (s.data.toList.take k).length ≤ 10 ^ 6 := Nat.pow_le_pow_right (by omega) (by rw [List.length_take]; omega)
  unfold Drl.numVal
  omega
theorem empty_yes {s : ByteArray} (h : s.size = 0) : s.toList.isEmpty = true := by rw [toList_nil h]; rfl
theorem empty_no {s : ByteArray} (h : 0 < s.size) : s.toList.isEmpty = false := by have := toList_some h; simpa using this
theorem numOk_nil (s : ByteArray) (h : s.size = 0) : Drl.numOk s.data.toList = false := numOk_short s (.inl (by omega))

set_option maxRecDepth 100000 in
set_option maxHeartbeats 1000000 in
theorem rnumber_any (s : ByteArray) (w : World) (hs : s.size ≤ 4294967296) :
    Calls Tryz.prog 44 #[.string s] w fun r w' => r = .returned (.int .i64 (Drl.rnum s.data.toList)) ∧ w = w' := by
  go_enter Tryz.func44, Tryz.ntmps44
  go_wp2_with fail
  go_loopw [3, 4] (fun n i wr => ∃ k : Nat, k ≤ s.size ∧ k ≤ 6 ∧ i = .int .i64 k ∧ n = .int .i64 (Drl.numVal (s.data.toList.take k) : Nat) ∧ wr = w ∧ ∀ j (hj : j < s.size), j < k → Drl.isDig (s[j]'hj) = true) (fun _ i _ => s.size - (intOf i).toNat)
  case atStart => exact ⟨0, by omega, by omega, rfl, rfl, rfl, fun _ _ h => by omega⟩
  case round =>
    obtain ⟨k, hk, hk6, rfl, rfl, rfl, hall⟩ := hrel
    have hsm := numVal_small s k hk6 hall
    by_cases hlt : k < s.size
    · have hnx := numVal_take s k hlt
      have HA := Lib.hid hall
      clear hall
      generalize Drl.numVal (s.data.toList.take k) = nv at hsm hnx ⊢
      by_cases hlo : ((s[k]'hlt).toNat : Int) < 48
      · have H := Lib.hid (numOk_bad s k hlt (by simp only [Drl.isDig]; simp; omega))
        clear hnx
        go_wp2_with fail
        go_ret
        exact ⟨ret_int (rnum_bad H.out), rfl⟩
      · by_cases hhi : 57 < ((s[k]'hlt).toNat : Int)
        · have H := Lib.hid (numOk_bad s k hlt (by simp only [Drl.isDig]; simp; omega))
          clear hnx
          go_wp2_with fail
          go_ret
          exact ⟨ret_int (rnum_bad H.out), rfl⟩
        · by_cases h6 : k = 6
          · have H := Lib.hid (numOk_short s (.inr (by omega)))
            have e6 : ((k : Int) == 6) = true := by rw [h6]; rfl
            clear hnx h6
            go_wp2_with fail
            go_ret
            exact ⟨ret_int (rnum_bad H.out), rfl⟩
          · have e6 : ((k : Int) == 6) = false := by simp; omega
            have hl : Drl.isDig (s[k]'hlt) = true := by simp only [Drl.isDig]; simp; omega
            have w1 : IntKind.i64.wrap ((k : Int) + 1) = (k : Int) + 1 := IntWalk.i64_in _ (by omega)
            have w2 : IntKind.i64.wrap ((nv : Int) * 10) = (nv : Int) * 10 := IntWalk.i64_in _ (by omega)
            have w3 : IntKind.u8.wrap (((s[k]'hlt).toNat : Int) - 48) = ((s[k]'hlt).toNat : Int) - 48 := by
              simp only [IntKind.wrap, IntKind.bits, IntKind.signed]; simp; omega
            have w4 : IntKind.i64.wrap (((s[k]'hlt).toNat : Int) - 48) = ((s[k]'hlt).toNat : Int) - 48 := IntWalk.i64_in _ (by omega)
            have w5 : IntKind.i64.wrap ((nv : Int) * 10 + (((s[k]'hlt).toNat : Int) - 48)) = (nv : Int) * 10 + (((s[k]'hlt).toNat : Int) - 48) := IntWalk.i64_in _ (by omega)
            have HN := Lib.hid hnx
            have H6 := Lib.hid h6
            clear hnx h6
            go_wp2_with fail
            go_round
            case rel =>
              have h6 := H6.out
              refine ⟨k + 1, by omega, by omega, by go_num, ?_, (by first | rfl | trivial), fun j hj hjk => ?_⟩
              · rw [HN.out]; congr 1; omega
              · by_cases e : j = k
                · subst e; exact hl
                · exact HA.out j hj (by omega)
            case measure => simp only [intOf]; omega
    · have hkk : k = s.size := by omega
      have htk : s.data.toList.take k = s.data.toList := List.take_of_length_le (by rw [size_len]; omega)
      rw [htk]
      by_cases h0 : s.size = 0
      · have e0 := empty_yes h0
        have H := Lib.hid (numOk_nil s h0)
        go_wp2_with fail
        go_ret
        exact ⟨ret_int (rnum_bad H.out), rfl⟩
      · have h0' : 0 < s.size := by omega
        have e0 := empty_no h0'
        by_cases hz : ((s[0]'h0').toNat : Int) = 48
        · have ez : (((s[0]'h0').toNat : Int) == 48) = true := by simpa using hz
          by_cases h1 : 1 < s.size
          · have H := Lib.hid (numOk_zero s h1 hz)
            have h1' : (1 : Int) < (s.size : Int) := by omega
            clear hz hall
            go_wp2_with fail
            go_ret
            exact ⟨ret_int (rnum_bad H.out), rfl⟩
          · have H := Lib.hid (numOk_all s h0' (by omega) (fun h => absurd h h1) (fun j hj => hall j hj (by omega)))
            have h1' : ¬ (1 : Int) < (s.size : Int) := by omega
            clear hz hall
            go_wp2_with fail
            go_ret
            exact ⟨ret_int (rnum_ok H.out), rfl⟩
        · have ez : (((s[0]'h0').toNat : Int) == 48) = false := by simpa using hz
          have H := Lib.hid (numOk_all s h0' (by omega) (fun _ => hz) (fun j hj => hall j hj (by omega)))
          clear hz hall
          go_wp2_with fail
          go_ret
          exact ⟨ret_int (rnum_ok H.out), rfl⟩

/-! ### trim -/
theorem trim_step (s : ByteArray) (k : Nat) (h : k < s.size) (h32 : (s[k]'h).toNat = 32) : Drl.trim (s.data.toList.drop k) = Drl.trim (s.data.toList.drop (k + 1)) := by
  have e : s[k]'h = 32 := UInt8.toNat_inj.1 h32
  rw [drop_at s k h, Drl.trim, List.dropWhile_cons, e]; rfl
theorem trim_stop (s : ByteArray) (k : Nat) (h : k < s.size) (h32 : (s[k]'h).toNat ≠ 32) : Drl.trim (s.data.toList.drop k) = s.data.toList.drop k := by
  have e : s[k]'h ≠ 32 := fun e => h32 (by rw [e]; rfl)
  rw [drop_at s k h, Drl.trim, List.dropWhile_cons]
  simp [e]
theorem extract_drop (s : ByteArray) (a : Nat) : (s.extract a s.size).data.toList = s.data.toList.drop a := by
  rw [extract_list s a s.size (Nat.le_refl _), List.take_of_length_le (by rw [size_len]; exact Nat.le_refl _)]
theorem size_of_toList {a b : ByteArray} (h : a.data.toList = b.data.toList) : a.size = b.size := by rw [← size_len, ← size_len, h]

theorem rtrim_any (s : ByteArray) (w : World) (hs : s.size ≤ 4294967296) :
    Calls Tryz.prog 41 #[.string s] w fun r w' => r = .returned (strV (Drl.trim s.data.toList)) ∧ w = w' := by
  go_enter Tryz.func41, Tryz.ntmps41
  go_wp2_with fail
  go_loopw [0] (fun v wr => ∃ (t : ByteArray), v = .string t ∧ t.size ≤ s.size ∧ Drl.trim t.data.toList = Drl.trim s.data.toList ∧ wr = w) (fun v _ => match v with | .string t => t.size | _ => 0)
  case atStart => exact ⟨s, rfl, Nat.le_refl _, rfl, rfl⟩
  case round =>
    obtain ⟨t, rfl, hts, htr, rfl⟩ := hrel
    have HT := Lib.hid htr
    clear htr
    by_cases h0 : t.size = 0
    · have H := Lib.hid (show t.data.toList = Drl.trim s.data.toList by
        have : t.data.toList = [] := List.eq_nil_of_length_eq_zero (by rw [size_len]; exact h0)
        rw [← HT.out, this]; rfl)
      have hn : ¬ (0 : Int) < (t.size : Int) := by omega
      go_wp2_with fail
      go_ret
      refine ⟨?_, by trivial⟩
      show Ending.returned (.string t) = _
      rw [← H.out, strV_data]
    · have h0' : 0 < t.size := by omega
      have hn : (0 : Int) < (t.size : Int) := by omega
      by_cases h32 : (t[0]'h0').toNat = 32
      · have e : (((t[0]'h0').toNat : Int) == 32) = true := by simp; omega
        have H := Lib.hid (trim_step t 0 h0' h32)
        have e1 : (1 : Int) ≤ (t.size : Int) := by omega
        clear h32
        go_wp2_with fail
        go_round
        case rel =>
          refine ⟨t.extract 1 t.size, rfl, by simp; omega, ?_, by trivial⟩
          rw [extract_drop, ← HT.out]
          have := H.out
          simpa using this.symm
        case measure => simp; omega
      · have e : (((t[0]'h0').toNat : Int) == 32) = false := by simp; omega
        have H := Lib.hid (trim_stop t 0 h0' h32)
        clear h32
        go_wp2_with fail
        go_ret
        refine ⟨?_, by trivial⟩
        have := H.out
        rw [List.drop_zero] at this
        show Ending.returned (.string t) = _
        rw [← HT.out, this, strV_data]
end Go.Proofs.YtfbmlnkgjgnnhaaGreatDoor
end

section
namespace Go.Proofs.YtfbmlnkgjgnnhaaGreatDoor
open Go.RowKit

theorem info_string : (Tryz.prog.info? 9).map (fun i => (i.zero, i.size, i.bytes)) = some (some (.string ByteArray.empty), 1, 16) := by kernel_rfl

/-- words that a call laid: n of them at a block; there may be room behind them -/
structure WordsRow (w : World) (g : Nat) (ws : List Drl.Str) : Prop where
  row : ∃ c fz, w.heap[g]? = some (.cells c 9 fz)
  at_ : ∀ i, i < ws.length → w.cell? ⟨g, i, none⟩ = some (strV (Drl.wd ws i))
theorem WordsRow.str {w : World} {g : Nat} {ws : List Drl.Str} (h : WordsRow w g ws) (i : Nat) (hi : i < ws.length) : ∃ s : ByteArray, s.data.toList = Drl.wd ws i ∧ w.cell? ⟨g, i, none⟩ = some (.string s) := by
  obtain ⟨s, hs⟩ := exists_str (Drl.wd ws i)
  exact ⟨s, hs, by rw [h.at_ i hi, strV_eq hs]⟩
theorem WordsRow.keep {S : Nat → Prop} {es : TypeId → Prop} {w w' : World} {g : Nat} {ws : List Drl.Str} (h : WordsRow w g ws) (hk : Keep S es w w') (hS : ∀ b c fz, w.heap[b]? = some (.cells c 9 fz) → ¬ S b) (he : ¬ es 9) : WordsRow w' g ws := by
  obtain ⟨c, fz, hr⟩ := h.row
  have h2 := hk.cells hr (hS _ _ _ hr) he
  refine ⟨⟨c, fz, h2⟩, fun i hi => ?_⟩
  rw [← h.at_ i hi]
  simp [World.cell?, hr, h2]
theorem wordsRow_of {w : World} {B g cap : Nat} {n : Nat} {ws : List Drl.Str} (h : w.ownsRow B 9 1 (.slice (some ⟨g, 0, none⟩) n cap) ws.length (ws.map strV)) : WordsRow w g ws := by
  refine ⟨?_, fun i hi => ?_⟩
  · obtain ⟨c, fz, h1, _⟩ := ownsRow_row h g rfl
    exact ⟨c, fz, h1⟩
  · have := h.cells (g := g) rfl i (strV (Drl.wd ws i)) (by simp [Drl.wd, hi])
    have hadd : (⟨g, 0, none⟩ : Addr).add i = ⟨g, i, none⟩ := by unfold Addr.add; split <;> simp_all
    rw [hadd] at this
    exact this

theorem words_hit (s : ByteArray) (f k : Nat) (hk : k < s.size) (hf : f ≤ k) (h : ∀ j (hj : j < s.size), f ≤ j → j < k → (s[j]'hj).toNat ≠ 32) (h32 : (s[k]'hk).toNat = 32) :
    Drl.cutAt 32 (s.data.toList.drop f) = (s.data.toList.take k).drop f :: Drl.cutAt 32 (s.data.toList.drop (k + 1)) := by
  have e : s.data.toList.drop f = (s.data.toList.take k).drop f ++ 32 :: s.data.toList.drop (k + 1) := by
    have h1 : s.data.toList = s.data.toList.take k ++ (s[k]'hk) :: s.data.toList.drop (k + 1) := by
      rw [← drop_at s k hk, List.take_append_drop]
    have h2 : s[k]'hk = 32 := UInt8.toNat_inj.1 h32
    rw [h2] at h1
    conv => lhs; rw [h1]
    rw [List.drop_append_of_le_length (by rw [List.length_take, size_len]; omega)]
  rw [e, Drl.cutAt_hit]
  intro x hx e
  obtain ⟨i, hi, rfl⟩ := List.getElem_of_mem hx
  simp only [List.length_drop, List.length_take, size_len] at hi
  rw [List.getElem_drop, List.getElem_take, get_list s (f + i) (by omega)] at e
  exact h (f + i) (by omega) (by omega) (by omega) (by rw [e]; rfl)
theorem words_end (s : ByteArray) (f : Nat) (h : ∀ j (hj : j < s.size), f ≤ j → (s[j]'hj).toNat ≠ 32) : Drl.cutAt 32 (s.data.toList.drop f) = [s.data.toList.drop f] := by
  apply Drl.cutAt_no
  intro x hx e
  obtain ⟨i, hi, rfl⟩ := List.getElem_of_mem hx
  simp only [List.length_drop, size_len] at hi
  rw [List.getElem_drop, get_list s (f + i) (by omega)] at e
  exact h (f + i) (by omega) (by omega) (by rw [e]; rfl)

set_option maxRecDepth 100000 in
set_option maxHeartbeats 2000000 in
theorem rwords_any (s : ByteArray) (w : World) (hs : s.size ≤ 4294967296) :
    Calls Tryz.prog 43 #[.string s] w fun r w' => ∃ g cap, r = .returned (.slice (some ⟨g, 0, none⟩) (Drl.words s.data.toList).length cap) ∧ WordsRow w' g (Drl.words s.data.toList) ∧ Below w.heap.size w w' := by
  obtain ⟨i0, hi, hz0, hz1, hz2⟩ := info_parts info_string
  go_enter Tryz.func43, Tryz.ntmps43
  go_wp2_with fail
  go_loopw [3, 4, 5] (fun v f i wr => ∃ (k fr : Nat) (acc : List Drl.Str) (ao : Option Addr) (cv : Nat), k ≤ s.size ∧ fr ≤ k ∧ acc.length ≤ k ∧ i = .int .i64 k ∧ f = .int .i64 fr ∧ v = .slice ao acc.length cv ∧ wr.ownsRow w.heap.size 9 1 v acc.length (acc.map strV) ∧ Below w.heap.size w wr ∧ acc ++ Drl.cutAt 32 (s.data.toList.drop fr) = Drl.words s.data.toList ∧ ∀ j (hj : j < s.size), fr ≤ j → j < k → (s[j]'hj).toNat ≠ 32) (fun _ _ i _ => s.size - (intOf i).toNat)
  case atStart => exact ⟨0, 0, [], none, 0, by omega, by omega, by simp, rfl, rfl, rfl, World.ownsRow_nil _ _ _ _, Below.refl _ _, by simp [Drl.words], fun _ _ _ h => by omega⟩
  case round =>
    obtain ⟨k, fr, acc, ao, cv, hk, hfr, hal, rfl, rfl, rfl, hown, hb, hacc, hno⟩ := hrel
    have hsize := hb.size
    have HA := Lib.hid hacc
    have HN := Lib.hid hno
    clear hacc hno
    by_cases hlt : k < s.size
    · have w1 : IntKind.i64.wrap ((k : Int) + 1) = (k : Int) + 1 := IntWalk.i64_in _ (by omega)
      by_cases h32 : (s[k]'hlt).toNat = 32
      · have e : (((s[k]'hlt).toNat : Int) == 32) = true := by simp; omega
        have H := Lib.hid (words_hit s fr k hlt hfr HN.out h32)
        have c1 : (fr : Int) ≤ (k : Int) := by omega
        have c2 : (k : Int) ≤ (s.size : Int) := by omega
        clear h32
        go_wp2_with (at_builtin; refine wpList_append_own _ rfl _ _ 57 rfl w.heap.size 9 i0 (.string ByteArray.empty) 1 16 Tryz.underlying57 hi hz0 hz1 hz2 rfl (by decide) _ _ _ rfl (hown.alloc _) ⟨wr.heap.size, 0, none⟩ 1 1 [.string (s.extract fr k)] rfl rfl (cell_one_new _ _ _) (fun x hx => by simp at hx; subst hx; rfl) (by unfold maxLen; omega) (by omega) (by simp; omega) ?_; intro v' w3 hown' hgrow3 hnil3)
        go_roundw
        case rel =>
          obtain ⟨g3, cap3, rfl⟩ : ∃ g3 cap3, v' = .slice (some ⟨g3, 0, none⟩) (acc.length + 1) cap3 := by
            rcases hown'.2 with ⟨_, h⟩ | ⟨g3, cap3, _, h, _⟩
            · omega
            · exact ⟨g3, cap3, h⟩
          have ex : strV ((s.data.toList.take k).drop fr) = .string (s.extract fr k) := strV_eq (extract_list s fr k (by omega))
          refine ⟨k + 1, k + 1, acc ++ [(s.data.toList.take k).drop fr], some ⟨g3, 0, none⟩, cap3, by omega, by omega, by simp; omega, by go_num, by go_num, by simp, ?_, (hb.alloc hsize _).grown hgrow3 (by simp; omega) (fun q hq => (hown.lt q hq).1), ?_, fun _ _ _ h => by omega⟩
          · rw [List.map_append, List.length_append, List.map_cons, ex]; exact hown'
          · rw [← HA.out, H.out]; simp
        case measure => simp only [intOf]; omega
      · have e : (((s[k]'hlt).toNat : Int) == 32) = false := by simp; omega
        have H := Lib.hid h32
        clear h32
        go_wp2_with fail
        go_roundw
        case rel =>
          refine ⟨k + 1, fr, acc, ao, cv, by omega, by omega, by omega, by go_num, rfl, rfl, hown, hb, HA.out, fun j hj h1 h2 => ?_⟩
          by_cases e : j = k
          · subst e; exact H.out
          · exact HN.out j hj h1 (by omega)
        case measure => simp only [intOf]; omega
    · have H := Lib.hid (words_end s fr (fun j hj h1 => HN.out j hj h1 (by omega)))
      have c1 : (fr : Int) ≤ (s.size : Int) := by omega
      go_wp2_with (at_builtin; refine wpList_append_own _ rfl _ _ 57 rfl w.heap.size 9 i0 (.string ByteArray.empty) 1 16 Tryz.underlying57 hi hz0 hz1 hz2 rfl (by decide) _ _ _ rfl (hown.alloc _) ⟨wr.heap.size, 0, none⟩ 1 1 [.string (s.extract fr s.size)] rfl rfl (cell_one_new _ _ _) (fun x hx => by simp at hx; subst hx; rfl) (by unfold maxLen; omega) (by omega) (by simp; omega) ?_; intro v' w3 hown' hgrow3 hnil3)
      obtain ⟨g3, cap3, rfl⟩ : ∃ g3 cap3, v' = .slice (some ⟨g3, 0, none⟩) (acc.length + 1) cap3 := by
        rcases hown'.2 with ⟨_, h⟩ | ⟨g3, cap3, _, h, _⟩
        · omega
        · exact ⟨g3, cap3, h⟩
      have ex : strV (s.data.toList.drop fr) = .string (s.extract fr s.size) := strV_eq (extract_drop s fr)
      have hw : Drl.words s.data.toList = acc ++ [s.data.toList.drop fr] := by rw [← HA.out, H.out]
      go_ret
      rw [hw]
      refine ⟨g3, cap3, by simp, wordsRow_of (B := w.heap.size) (n := acc.length + 1) (cap := cap3) ?_, (hb.alloc hsize _).grown hgrow3 (by simp; omega) (fun q hq => (hown.lt q hq).1)⟩
      rw [List.map_append, List.length_append, List.map_cons, ex]; exact hown'
end Go.Proofs.YtfbmlnkgjgnnhaaGreatDoor
end

section
namespace Go.Proofs.YtfbmlnkgjgnnhaaGreatDoor
open Go.RowKit

theorem rkind_any (s : ByteArray) (w : World) (hs : s.size ≤ 4294967296) :
    Calls Tryz.prog 42 #[.string s] w fun r w' => r = .returned (.int .i64 (Drl.rkind s.data.toList)) ∧ Below w.heap.size w w' := by
  by_cases h0 : s.size = 0
  · have e0 := empty_yes h0
    have H := Lib.hid (show Drl.rkind s.data.toList = 0 by rw [Drl.rkind, if_pos (says_no s h0)])
    go_enter Tryz.func42, Tryz.ntmps42
    go_wp2_with fail
    go_ret
    exact ⟨by rw [H.out]; rfl, Below.refl _ _⟩
  have h0' : 0 < s.size := by omega
  have e0 := empty_no h0'
  by_cases h35 : (s[0]'h0').toNat = 35
  · have e1 : (((s[0]'h0').toNat : Int) == 35) = true := by simp; omega
    have H := Lib.hid (show Drl.rkind s.data.toList = 0 by rw [Drl.rkind, if_pos (by rw [says_yes s h0', h35]; rfl)])
    clear h35
    go_enter Tryz.func42, Tryz.ntmps42
    go_wp2_with fail
    go_ret
    exact ⟨by rw [H.out]; rfl, Below.refl _ _⟩
  have e1 : (((s[0]'h0').toNat : Int) == 35) = false := by simp; omega
  have hsy : ¬ Drl.says s.data.toList = false := by rw [says_yes s h0']; simp; omega
  have HK := Lib.hid (show Drl.rkind s.data.toList = _ by rw [Drl.rkind, if_neg hsy])
  clear h35 hsy
  have hwp := Drl.words_pos s.data.toList
  go_enter Tryz.func42, Tryz.ntmps42
  go_wp2_with fail
  refine (rwords_any s _ hs).mono ?_
  rintro e w1 ⟨g, cap, rfl, hW, hb⟩
  obtain ⟨s0, hs0, hc0⟩ := hW.str 0 (by omega)
  have hwp' : (0 : Int) < ((Drl.words s.data.toList).length : Int) := by omega
  have hk := HK.out
  clear HK hW
  by_cases q1 : Drl.wd (Drl.words s.data.toList) 0 = Drl.wDef
  · rw [if_pos q1] at hk
    have b1 := eq_yes hs0 q1
    unfold Drl.wDef at b1
    have H := Lib.hid hk
    clear hk q1 hs0
    go_wp2_with fail
    go_ret
    exact ⟨by rw [H.out]; rfl, hb⟩
  rw [if_neg q1] at hk
  have b1 := eq_no hs0 q1
  unfold Drl.wDef at b1
  by_cases q2 : Drl.wd (Drl.words s.data.toList) 0 = Drl.wRepeat
  · rw [if_pos q2] at hk
    have b2 := eq_yes hs0 q2
    unfold Drl.wRepeat at b2
    have H := Lib.hid hk
    clear hk q1 q2 hs0
    go_wp2_with fail
    go_ret
    exact ⟨by rw [H.out]; rfl, hb⟩
  rw [if_neg q2] at hk
  have b2 := eq_no hs0 q2
  unfold Drl.wRepeat at b2
  by_cases q3 : Drl.wd (Drl.words s.data.toList) 0 = Drl.wFor
  · rw [if_pos q3] at hk
    have b3 := eq_yes hs0 q3
    unfold Drl.wFor at b3
    have H := Lib.hid hk
    clear hk q1 q2 q3 hs0
    go_wp2_with fail
    go_ret
    exact ⟨by rw [H.out]; rfl, hb⟩
  rw [if_neg q3] at hk
  have b3 := eq_no hs0 q3
  unfold Drl.wFor at b3
  by_cases q4 : Drl.wd (Drl.words s.data.toList) 0 = Drl.wUse
  · rw [if_pos q4] at hk
    have b4 := eq_yes hs0 q4
    unfold Drl.wUse at b4
    have H := Lib.hid hk
    clear hk q1 q2 q3 q4 hs0
    go_wp2_with fail
    go_ret
    exact ⟨by rw [H.out]; rfl, hb⟩
  rw [if_neg q4] at hk
  have b4 := eq_no hs0 q4
  unfold Drl.wUse at b4
  by_cases q5 : Drl.wd (Drl.words s.data.toList) 0 = Drl.wExpect
  · rw [if_pos q5] at hk
    have b5 := eq_yes hs0 q5
    unfold Drl.wExpect at b5
    have H := Lib.hid hk
    clear hk q1 q2 q3 q4 q5 hs0
    go_wp2_with fail
    go_ret
    exact ⟨by rw [H.out]; rfl, hb⟩
  rw [if_neg q5] at hk
  have b5 := eq_no hs0 q5
  unfold Drl.wExpect at b5
  by_cases q6 : s.data.toList = Drl.wEnd
  · rw [if_pos q6] at hk
    have b6 := eq_yes rfl q6
    unfold Drl.wEnd at b6
    have H := Lib.hid hk
    clear hk q1 q2 q3 q4 q5 q6 hs0
    go_wp2_with fail
    go_ret
    exact ⟨by rw [H.out]; rfl, hb⟩
  rw [if_neg q6] at hk
  have b6 := eq_no rfl q6
  unfold Drl.wEnd at b6
  have H := Lib.hid hk
  clear hk q1 q2 q3 q4 q5 q6 hs0
  go_wp2_with fail
  go_ret
  exact ⟨by rw [H.out]; rfl, hb⟩

/-! ### digits -/
theorem dec_small {n : Nat} (h : n < 10) : (Value.string ⟨(Lib.decDigits n).toArray⟩) = .string ⟨#[UInt8.ofNat (48 + n)]⟩ := by rw [Lib.decDigits_one h]
theorem dec_big {n : Nat} (h : ¬ n < 10) : Lib.decDigits n = Lib.decDigits (n / 10) ++ [UInt8.ofNat (48 + n % 10)] := by
  conv => lhs; rw [Lib.decDigits, dif_neg h]
theorem digit_cell (d : Nat) (h : d < 10) : ((UInt8.ofNat (48 + d)).toNat : Int) = 48 + (d : Int) := by
  have hd : ∀ d, d < 10 → (UInt8.ofNat (48 + d)).toNat = 48 + d := by decide
  rw [hd d h]; omega

set_option maxRecDepth 100000 in
theorem rdigits_any : ∀ (n : Nat) (w : World), n ≤ 4294967296 →
    Calls Tryz.prog 32 #[.int .i64 n] w fun r w' => r = .returned (.string ⟨(Lib.decDigits n).toArray⟩) ∧ Below w.heap.size w w' := by
  intro n
  induction n using Nat.strongRecOn with
  | _ n ih =>
    intro w hn
    have hrem : Int.tmod (n : Int) 10 = ((n % 10 : Nat) : Int) := by rw [Int.tmod_eq_emod_of_nonneg (by omega)]; omega
    have hquo : Int.tdiv (n : Int) 10 = ((n / 10 : Nat) : Int) := by rw [Int.tdiv_eq_ediv_of_nonneg (by omega)]; omega
    have hd : n % 10 < 10 := Nat.mod_lt _ (by omega)
    have hcell := digit_cell (n % 10) hd
    have hw1 : IntKind.i64.wrap ((n % 10 : Nat) : Int) = ((n % 10 : Nat) : Int) := IntWalk.i64_in _ (by omega)
    have hw2 : IntKind.i64.wrap (48 + ((n % 10 : Nat) : Int)) = 48 + ((n % 10 : Nat) : Int) := IntWalk.i64_in _ (by omega)
    have hw3 : IntKind.u8.wrap (48 + ((n % 10 : Nat) : Int)) = 48 + ((n % 10 : Nat) : Int) := by
      simp only [IntKind.wrap, IntKind.bits, IntKind.signed]; simp; omega
    have hw4 : IntKind.i64.wrap ((n / 10 : Nat) : Int) = ((n / 10 : Nat) : Int) := IntWalk.i64_in _ (by omega)
    have hcv : ∀ W : World, W.cell? ⟨w.heap.size, 0, none⟩ = some (.int .u8 (48 + ((n % 10 : Nat) : Int))) → (convert 80 9 (.slice (some ⟨w.heap.size, 0, none⟩) 1 1)).run Tryz.prog W = .ok (.string ⟨#[UInt8.ofNat (48 + n % 10)]⟩) W := by
      intro W hW
      exact run_convert_bytes_back (P := Tryz.prog) W 80 9 5 ⟨w.heap.size, 0, none⟩ 1 [UInt8.ofNat (48 + n % 10)] Tryz.underlying80 Tryz.underlying5 Tryz.underlying9 (fun j hj => by
        have : j = 0 := by simp at hj; omega
        subst this
        simp only [List.getElem_cons_zero]
        rw [hcell]
        have hadd : (⟨w.heap.size, 0, none⟩ : Addr).add 0 = ⟨w.heap.size, 0, none⟩ := by unfold Addr.add; split <;> simp_all
        rw [hadd]; exact hW)
    by_cases h10 : n < 10
    · have h10' : (n : Int) < 10 := by omega
      go_enter Tryz.func32, Tryz.ntmps32
      go_wp2_with fail
      go_ret
      refine ⟨?_, (Below.refl _ _).alloc (Nat.le_refl _) _⟩
      rw [dec_small h10]
      simp [Nat.mod_eq_of_lt h10]
    · have h10' : ¬ (n : Int) < 10 := by omega
      have hlen := Drl.decDigits_len 9 (n / 10) (by omega)
      have hx : ¬ 9223372036854775807 < (Lib.decDigits (n / 10)).length + 1 := by omega
      go_enter Tryz.func32, Tryz.ntmps32
      go_wp2_with fail
      refine (ih (n / 10) (by omega) _ (by omega)).mono ?_
      rintro e w1 ⟨rfl, hb⟩
      go_wp2_with fail
      go_ret
      refine ⟨?_, ((Below.refl _ _).alloc (Nat.le_refl _) _).trans (hb.mono (by simp))⟩
      rw [dec_big h10]
      simp only [UInt8.ofNat_add]
      congr 2
end Go.Proofs.YtfbmlnkgjgnnhaaGreatDoor
end
