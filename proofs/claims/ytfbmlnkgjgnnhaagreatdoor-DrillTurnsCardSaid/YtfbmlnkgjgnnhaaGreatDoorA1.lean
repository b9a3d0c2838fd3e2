import Derived.Test.YtfbmlnkgjgnnhaaGreatDoorProg
import Derived.Test.YtfbmlnkgjgnnhaaGreatDoorP0
import Derived.WalkKit
import Derived.KernelRfl
import Derived.Deep.QuietTactic
import Derived.BigQuiet
import Derived.Lib.Hide
import Derived.Lib.OthersKept
namespace Go.Proofs.YtfbmlnkgjgnnhaaGreatDoor
open Go.RowKit

theorem ret_bool {a b : Bool} (h : a = b) : Ending.returned (.bool a) = .returned (.bool b) := by rw [h]
theorem ret_int {k : IntKind} {a b : Int} (h : a = b) : Ending.returned (.int k a) = .returned (.int k b) := by rw [h]

theorem wrap_any (at_ e : Int) (w : World) :
    Calls Tryz.prog 18 #[.int .i64 at_, .int .i64 e] w fun r w' => r = .returned (.iface 76 (.pointer (some ⟨w.heap.size, 0, none⟩))) ∧ w' = w.alloc (.cells #[.int .i64 at_, .iface 33 (.int .i64 e)] 79) := by
  go_enter Tryz.func18, Tryz.ntmps18
  go_wp2
  go_ret
  exact ⟨rfl, rfl⟩

theorem size_len (s : ByteArray) : s.data.toList.length = s.size := by simp
theorem get_list (s : ByteArray) (i : Nat) (h : i < s.size) : s.data.toList[i]'(by rw [size_len]; exact h) = s[i] := by simp; rfl

theorem letterB_eq (s : ByteArray) : Drl.letterB s.data.toList = if h : s.size = 1 then decide (97 ≤ ((s[0]'(by omega)).toNat : Int)) && decide (((s[0]'(by omega)).toNat : Int) ≤ 122) else false := by
  split
  · rename_i h
    have e : s.data.toList = [s[0]'(by omega)] := by
      apply List.ext_getElem
      · rw [size_len]; simpa using h
      · intro i h1 h2
        have : i = 0 := by simp at h2; omega
        subst this
        rw [get_list]; rfl
    rw [e]
    simp only [Drl.letterB, Drl.isLet]
    congr 1 <;> (congr 1; simp only [eq_iff_iff]; omega)
  · rename_i h
    match hs : s.data.toList with
    | [] => rfl
    | [c] => exact absurd (by rw [← size_len, hs]; rfl) h
    | _ :: _ :: _ => rfl

theorem letter_any (s : ByteArray) (w : World) :
    Calls Tryz.prog 65 #[.string s] w fun r w' => r = .returned (.bool (Drl.letterB s.data.toList)) ∧ w = w' := by
  rw [letterB_eq]
  by_cases h : s.size = 1
  · rw [dif_pos h]
    have h0 : 0 < s.size := by omega
    by_cases h1 : 97 ≤ ((s[0]'h0).toNat : Int)
    all_goals
      go_enter Tryz.func65, Tryz.ntmps65
      go_wp2
      go_ret
      exact ⟨ret_bool (by simp; omega), rfl⟩
  · rw [dif_neg h]
    go_enter Tryz.func65, Tryz.ntmps65
    go_wp2
    go_ret
    exact ⟨rfl, rfl⟩


theorem toList_data (s : ByteArray) : s.toList = s.data.toList := ByteArray.toList_eq s
theorem toList_nil {s : ByteArray} (h : s.size = 0) : s.toList = [] := by
  rw [toList_data]; exact List.eq_nil_of_length_eq_zero (by rw [size_len]; exact h)
theorem toList_some {s : ByteArray} (h : 0 < s.size) : (!s.toList.isEmpty) = true := by
  rw [toList_data]
  have := size_len s
  cases hs : s.data.toList with
  | nil => rw [hs] at this; simp at this; omega
  | cons _ _ => rfl

theorem width_pos (s : ByteArray) (pos : Nat) (h : pos < s.size) : 1 ≤ (Utf8.decode s pos).2 := by
  by_cases ha : (s[pos]'h).toNat < 128
  · rw [decode_ascii s pos h ha]
    exact Nat.le_refl _
  · exact (decode_high s pos h (by omega)).2

/-- the rune at a place is below 128 just if the byte is, and then it is the byte -/
theorem decode_cases (s : ByteArray) (pos : Nat) (h : pos < s.size) : (Utf8.decode s pos = ((s[pos]'h).toNat, 1) ∧ (s[pos]'h).toNat < 128) ∨ (128 ≤ (Utf8.decode s pos).1 ∧ 128 ≤ (s[pos]'h).toNat) := by
  by_cases ha : (s[pos]'h).toNat < 128
  · exact .inl ⟨decode_ascii s pos h ha, ha⟩
  · exact .inr ⟨(decode_high s pos h (by omega)).1, by omega⟩

theorem namedB_false (s : ByteArray) (k : Nat) (h : k < s.size) (hc : Drl.isLet (s[k]'h) = false) : Drl.namedB s.data.toList = false := by
  have : s.data.toList.all Drl.isLet = false := by
    rw [List.all_eq_false]
    refine ⟨s[k], ?_, by rw [hc]; simp⟩
    rw [← get_list s k h]; exact List.getElem_mem _
  simp [Drl.namedB, this]
theorem namedB_all (s : ByteArray) (h : ∀ j (hj : j < s.size), Drl.isLet (s[j]'hj) = true) : Drl.namedB s.data.toList = (decide (1 ≤ s.size) && decide (s.size ≤ 12)) := by
  have : s.data.toList.all Drl.isLet = true := by
    rw [List.all_eq_true]
    intro x hx
    obtain ⟨j, hj, rfl⟩ := List.getElem_of_mem hx
    have hj' : j < s.size := by rw [size_len] at hj; exact hj
    rw [get_list s j hj']; exact h j hj'
  simp only [Drl.namedB, this, size_len, Bool.true_and]

theorem named_any (s : ByteArray) (w : World) (hs : s.size ≤ 4294967296) :
    Calls Tryz.prog 63 #[.string s] w fun r w' => r = .returned (.bool (Drl.namedB s.data.toList)) ∧ Below w.heap.size w w' := by
  go_enter Tryz.func63, Tryz.ntmps63
  go_wp2
  go_loopw [] (fun wr => ∃ k : Nat, k ≤ s.size ∧ wr.heap[w.heap.size]? = some (.stringIter s k) ∧ Below w.heap.size w wr ∧ ∀ j (hj : j < s.size), j < k → Drl.isLet (s[j]'hj) = true) (fun wr => s.size - wr.iterPos w.heap.size)
  case atStart =>
    exact ⟨0, by omega, World.iter_heap w s 0, (Below.refl _ w).alloc (Nat.le_refl _) _, fun _ _ h => by omega⟩
  case round =>
    obtain ⟨k, hk, hit, hbw, hall⟩ := hrel
    by_cases hp : k < s.size
    · have hnx : ∀ ty, (Instr.next (.pointer (some ⟨w.heap.size, 0, none⟩)) true ty).run Tryz.prog wr = _ := fun ty => Lib.run_next_any_at wr w.heap.size s k ty hit hp
      have hbw2 := Lib.below_iterAt hbw (k := w.heap.size) (by omega) s (k + (Utf8.decode s k).2)
      have hit2 := Lib.iterAt_heap wr w.heap.size s k (k + (Utf8.decode s k).2) hit
      have hle := decode_le s k
      have HA := Lib.hid hall
      clear hall
      by_cases hlo : ((Utf8.decode s k).1 : Int) < 97
      · have hfin := namedB_false s k hp (by rcases decode_cases s k hp with ⟨h1, h2⟩ | ⟨h1, h2⟩ <;> simp only [Drl.isLet] <;> simp_all <;> omega)
        have HF := Lib.hid hfin
        clear hfin
        go_wp2
        go_ret
        exact ⟨ret_bool HF.out.symm, hbw2⟩
      · by_cases hhi : 122 < ((Utf8.decode s k).1 : Int)
        · have hfin := namedB_false s k hp (by rcases decode_cases s k hp with ⟨h1, h2⟩ | ⟨h1, h2⟩ <;> simp only [Drl.isLet] <;> simp_all <;> omega)
          have HF := Lib.hid hfin
          clear hfin
          go_wp2
          go_ret
          exact ⟨ret_bool HF.out.symm, hbw2⟩
        · have h1 : Utf8.decode s k = ((s[k]'hp).toNat, 1) := by
            rcases decode_cases s k hp with ⟨h1, h2⟩ | ⟨h1, h2⟩
            · exact h1
            · omega
          have hl : Drl.isLet (s[k]'hp) = true := by rw [h1] at hlo hhi; simp only [Drl.isLet]; simp; omega
          have H1 := Lib.hid h1
          clear h1
          go_wp2
          go_roundw
          case rel =>
            rw [H1.out] at hit2 hbw2 ⊢
            refine ⟨k + 1, by omega, hit2, hbw2, fun j hj hjk => ?_⟩
            by_cases e : j = k
            · subst e; exact hl
            · exact HA.out j hj (by omega)
          case measure =>
            rw [H1.out] at hit2 ⊢
            simp only [World.iterPos, hit2, hit]
            omega
    · have hnx : ∀ ty, (Instr.next (.pointer (some ⟨w.heap.size, 0, none⟩)) true ty).run Tryz.prog wr = _ := fun ty => Lib.run_next_end_at wr w.heap.size s k ty hit hp
      have hfin := Lib.hid (namedB_all s (fun j hj => hall j hj (by omega)))
      clear hall
      by_cases h0 : s.size = 0
      · have e := toList_nil h0
        go_wp2
        go_ret
        exact ⟨ret_bool (by rw [hfin.out]; simp; omega), hbw⟩
      · have e := toList_some (s := s) (by omega)
        go_wp2
        go_ret
        exact ⟨ret_bool (by rw [hfin.out, decide_eq_true (show 1 ≤ s.size by omega), Bool.true_and]; exact decide_eq_decide.2 (by omega)), hbw⟩
end Go.Proofs.YtfbmlnkgjgnnhaaGreatDoor
