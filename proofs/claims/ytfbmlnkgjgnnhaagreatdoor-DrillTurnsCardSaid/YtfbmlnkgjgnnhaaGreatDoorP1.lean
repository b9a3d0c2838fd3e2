/- More plain words for the drill's proofs: what filled gives, step by step. -/
import Derived.Test.YtfbmlnkgjgnnhaaGreatDoorP0
namespace Drl

theorem decDigits_len : ∀ (k n : Nat), n < 10 ^ (k + 1) → (Go.Lib.decDigits n).length ≤ k + 1
  | 0, n, h => by
    rw [Go.Lib.decDigits, dif_pos (by simpa using h)]; simp
  | k + 1, n, h => by
    rw [Go.Lib.decDigits]
    split
    · simp
    · have := decDigits_len k (n / 10) (by rw [Nat.pow_succ] at h; omega)
      simp; omega

theorem filled_nil (v : Nums) : filled v [] = [] := by simp [filled]
theorem filled_plain (v : Nums) (d : UInt8) (r : Str) (h : d.toNat ≠ 36) : filled v (d :: r) = d :: filled v r := by
  cases r with
  | nil => simp [filled]
  | cons c r => simp [filled, h]
theorem filled_last (v : Nums) (d : UInt8) : filled v [d] = d :: filled v [] := by simp [filled]
theorem filled_not (v : Nums) (d c : UInt8) (r : Str) (h : ¬ (c.toNat < 128 ∧ 0 ≤ v c.toNat)) : filled v (d :: c :: r) = d :: filled v (c :: r) := by
  rw [filled, if_neg (fun e => h ⟨e.2.1, e.2.2⟩)]
theorem filled_put (v : Nums) (d c : UInt8) (r : Str) (h1 : d.toNat = 36) (h2 : c.toNat < 128) (h3 : 0 ≤ v c.toNat) : filled v (d :: c :: r) = Go.Lib.decDigits (v c.toNat).toNat ++ filled v r := by
  rw [filled, if_pos ⟨h1, h2, h3⟩]
end Drl
