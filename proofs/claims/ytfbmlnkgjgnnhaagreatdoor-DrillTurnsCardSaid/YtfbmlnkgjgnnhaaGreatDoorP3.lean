/- Lines of a text, cut one after the other. -/
import Derived.Test.YtfbmlnkgjgnnhaaGreatDoorP2
namespace Drl

theorem cutAt_no (c : UInt8) : ∀ (a : Str), (∀ x ∈ a, x ≠ c) → cutAt c a = [a]
  | [], _ => rfl
  | x :: r, h => by
    have h1 := h x (by simp)
    rw [cutAt, if_neg h1, cutAt_no c r (fun y hy => h y (by simp [hy]))]
theorem cutAt_hit (c : UInt8) (b : Str) : ∀ (a : Str), (∀ x ∈ a, x ≠ c) → cutAt c (a ++ c :: b) = a :: cutAt c b
  | [], _ => by simp [cutAt]
  | x :: r, h => by
    have h1 := h x (by simp)
    rw [List.cons_append, cutAt, if_neg h1, cutAt_hit c b r (fun y hy => h y (by simp [hy]))]

theorem rawLines_hit (a b : Str) (h : ∀ x ∈ a, x ≠ 10) : rawLines (a ++ 10 :: b) = a :: rawLines b := by
  unfold rawLines
  have e := cutAt_hit 10 b a h
  have hl : (cutAt 10 (a ++ 10 :: b)).getLast (cutAt_ne 10 _) = (cutAt 10 b).getLast (cutAt_ne 10 b) := by
    simp only [e]
    exact List.getLast_cons (cutAt_ne 10 b)
  rw [hl, e]
  split
  · rw [List.dropLast_cons_of_ne_nil (cutAt_ne 10 b)]
  · rfl
theorem rawLines_end (a : Str) (h : ∀ x ∈ a, x ≠ 10) : rawLines a = if a = [] then [] else [a] := by
  unfold rawLines
  have e := cutAt_no 10 a h
  simp only [e, List.getLast_singleton, List.dropLast_singleton]
end Drl
