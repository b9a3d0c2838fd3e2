/- strings.Split at one space is cutting at each space. -/
import Derived.Test.YtfbmlnkgjgnnhaaGreatDoorP1
import Derived.Lib.SplitLaws
namespace Drl
open Go

theorem index_cons_eq (c : UInt8) (l : Str) : Go.Lib.index (c :: l) [c] = 0 := by
  have := Go.Lib.index_hit (s := c :: l) (sub := [c]) (i := 0) (Go.Lib.NoOcc.zero _ _) (Nat.zero_le _) (by simp [Go.Lib.occAt])
  simpa using this
theorem index_cons_ne (b c : UInt8) (l : Str) (h : b ≠ c) : Go.Lib.index (b :: l) [c] = if Go.Lib.index l [c] == -1 then -1 else Go.Lib.index l [c] + 1 := by
  have hn : Go.Lib.NoOcc (b :: l) [c] 1 := by
    intro j hj
    have : j = 0 := by omega
    subst this
    simp [Go.Lib.occAt, List.isPrefixOf, Ne.symm h]
  have := Go.Lib.index_drop hn (by simp)
  simpa using this

theorem splitK_words (c : UInt8) : ∀ (s : Str), Go.Lib.splitK [c] 0 (Go.Lib.count s [c]) s = cutAt c s
  | [] => by simp [Go.Lib.count_one, Go.Lib.splitK, cutAt]
  | b :: l => by
    have ih := splitK_words c l
    by_cases h : b = c
    · subst h
      rw [Go.Lib.count_cons_eq, Nat.add_comm, Go.Lib.splitK, index_cons_eq]
      simp [cutAt, ih]
    · rw [Go.Lib.count_cons_ne b c l h]
      simp only [cutAt, if_neg h]
      rw [← ih]
      cases hk : Go.Lib.count l [c] with
      | zero => simp [Go.Lib.splitK]
      | succ k =>
        simp only [Go.Lib.splitK, index_cons_ne b c l h]
        rcases Go.Lib.index_spec l [c] with ⟨hi, _⟩ | ⟨i, hi, _⟩
        · simp [hi]
        · have h1 : ((i : Int) == -1) = false := by rw [beq_eq_false_iff_ne]; omega
          have h2 : (((i : Int) + 1 : Int) == -1) = false := by rw [beq_eq_false_iff_ne]; omega
          have h3 : ((i : Int) + 1).toNat = i + 1 := by omega
          rw [hi]
          simp only [h1, h2, h3, Bool.false_eq_true, if_false, Int.toNat_natCast, Nat.add_zero, List.length_cons, List.length_nil, Nat.zero_add, List.take_succ_cons, List.drop_succ_cons]
theorem split_words (s : ByteArray) : (Go.Lib.splitB ⟨#[32]⟩ 0 (Go.Lib.countB s ⟨#[32]⟩) s).map (·.data.toList) = words s.data.toList := by
  rw [Go.Lib.splitB_data]
  exact splitK_words 32 s.data.toList
theorem words_ne (s : Str) : words s ≠ [] := cutAt_ne 32 s
end Drl
