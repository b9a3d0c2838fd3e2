import Derived.Test.YtfbmlnkgjgnnhaaGreatDoorA27
import Derived.Laws.IdiomStrings
import Derived.Test.YtfbmlnkgjgnnhaaGreatDoorP9
namespace Go.Proofs.YtfbmlnkgjgnnhaaGreatDoor
open Go.RowKit

/-! ### digits -/
theorem ldec_small {n : Nat} (h : n < 10) : (Value.string ⟨(Lib.decDigits n).toArray⟩) = .string ⟨#[UInt8.ofNat (48 + n)]⟩ := by rw [Lib.decDigits_one h]
theorem ldec_big {n : Nat} (h : ¬ n < 10) : Lib.decDigits n = Lib.decDigits (n / 10) ++ [UInt8.ofNat (48 + n % 10)] := by
  conv => lhs; rw [Lib.decDigits, dif_neg h]
theorem ldigit_cell (d : Nat) (h : d < 10) : ((UInt8.ofNat (48 + d)).toNat : Int) = 48 + (d : Int) := by
  have hd : ∀ d, d < 10 → (UInt8.ofNat (48 + d)).toNat = 48 + d := by decide
  rw [hd d h]; omega

set_option maxRecDepth 100000 in
theorem digits_any : ∀ (n : Nat) (w : World), n ≤ 4294967296 →
    Calls Tryz.prog 15 #[.int .i64 n] w fun r w' => r = .returned (.string ⟨(Lib.decDigits n).toArray⟩) ∧ Below w.heap.size w w' := by
  intro n
  induction n using Nat.strongRecOn with
  | _ n ih =>
    intro w hn
    have hrem : Int.tmod (n : Int) 10 = ((n % 10 : Nat) : Int) := by rw [Int.tmod_eq_emod_of_nonneg (by omega)]; omega
    have hquo : Int.tdiv (n : Int) 10 = ((n / 10 : Nat) : Int) := by rw [Int.tdiv_eq_ediv_of_nonneg (by omega)]; omega
    have hd : n % 10 < 10 := Nat.mod_lt _ (by omega)
    have hcell := ldigit_cell (n % 10) hd
    have hw1 : IntKind.i64.wrap ((n % 10 : Nat) : Int) = ((n % 10 : Nat) : Int) := IntWalk.i64_in _ (by omega)
    have hw2 : IntKind.i64.wrap (48 + ((n % 10 : Nat) : Int)) = 48 + ((n % 10 : Nat) : Int) := IntWalk.i64_in _ (by omega)
    have hw3 : IntKind.u8.wrap (48 + ((n % 10 : Nat) : Int)) = 48 + ((n % 10 : Nat) : Int) := by
      simp only [IntKind.wrap, IntKind.bits, IntKind.signed]; simp; omega
    have hw4 : IntKind.i64.wrap ((n / 10 : Nat) : Int) = ((n / 10 : Nat) : Int) := IntWalk.i64_in _ (by omega)
    have hcv : ∀ W : World, W.cell? ⟨w.heap.size, 0, none⟩ = some (.int .u8 (48 + ((n % 10 : Nat) : Int))) → (convert 80 9 (.slice (some ⟨w.heap.size, 0, none⟩) 1 1)).run Tryz.prog W = .ok (.string ⟨#[UInt8.ofNat (48 + n % 10)]⟩) W := by
      intro W hW
      exact run_convert_bytes_back (P := Tryz.prog) W 80 9 5 ⟨w.heap.size, 0, none⟩ 1 [UInt8.ofNat (48 + n % 10)] Tryz.underlying80 Tryz.underlying5 Tryz.underlying9 (fun j hj => by
        have : j = 0 := by simp at hj; omega
        subst this
        simp only [List.getElem_cons_zero]
        rw [hcell]
        have hadd : (⟨w.heap.size, 0, none⟩ : Addr).add 0 = ⟨w.heap.size, 0, none⟩ := by unfold Addr.add; split <;> simp_all
        rw [hadd]; exact hW)
    by_cases h10 : n < 10
    · have h10' : (n : Int) < 10 := by omega
      go_enter Tryz.func15, Tryz.ntmps15
      go_wp2_with fail
      go_ret
      refine ⟨?_, (Below.refl _ _).alloc (Nat.le_refl _) _⟩
      rw [ldec_small h10]
      simp [Nat.mod_eq_of_lt h10]
    · have h10' : ¬ (n : Int) < 10 := by omega
      have hlen := Drl.decDigits_len 9 (n / 10) (by omega)
      have hx : ¬ 9223372036854775807 < (Lib.decDigits (n / 10)).length + 1 := by omega
      go_enter Tryz.func15, Tryz.ntmps15
      go_wp2_with fail
      refine (ih (n / 10) (by omega) _ (by omega)).mono ?_
      rintro e w1 ⟨rfl, hb⟩
      go_wp2_with fail
      go_ret
      refine ⟨?_, ((Below.refl _ _).alloc (Nat.le_refl _) _).trans (hb.mono (by simp))⟩
      rw [ldec_big h10]
      simp only [UInt8.ofNat_add]
      congr 2

/-- a number brought to 0 to m -/
def smallZ (n m : Int) : Int := if Int.tmod n (m + 1) < 0 then Int.tmod n (m + 1) + m + 1 else Int.tmod n (m + 1)
theorem smallZ_in (n m : Int) (hm : 0 ≤ m) : 0 ≤ smallZ n m ∧ smallZ n m ≤ m := by
  have h1 : Int.tmod n (m + 1) < m + 1 := Int.tmod_lt_of_pos n (by omega)
  have h2 : -(m + 1) < Int.tmod n (m + 1) := by
    have := Int.tmod_lt_of_pos (-n) (show 0 < m + 1 by omega)
    rw [Int.neg_tmod] at this
    omega
  unfold smallZ
  split <;> omega
set_option maxRecDepth 100000 in
theorem small_any (n m : Int) (w : World) (h0 : 0 ≤ m) (h1 : m ≤ 1000000) : Calls Tryz.prog 14 #[.int .i64 n, .int .i64 m] w fun e w' => e = .returned (.int .i64 (smallZ n m)) ∧ w = w' := by
  have hin := smallZ_in n m h0
  have b1 : Int.tmod n (m + 1) < m + 1 := Int.tmod_lt_of_pos n (by omega)
  have b2 : -(m + 1) < Int.tmod n (m + 1) := by
    have := Int.tmod_lt_of_pos (-n) (show 0 < m + 1 by omega)
    rw [Int.neg_tmod] at this
    omega
  have hz : ((m + 1) == 0) = false := by simp; omega
  have hw0 : IntKind.i64.wrap (m + 1) = m + 1 := IntWalk.i64_in _ (by omega)
  have hw1 : IntKind.i64.wrap (Int.tmod n (m + 1)) = Int.tmod n (m + 1) := IntWalk.i64_in _ (by omega)
  have HU := Lib.hid (show smallZ n m = _ from rfl)
  unfold smallZ at HU
  by_cases hneg : Int.tmod n (m + 1) < 0
  · have hr : smallZ n m = Int.tmod n (m + 1) + m + 1 := by unfold smallZ; rw [if_pos hneg]
    have H := Lib.hid hr
    clear hr hin HU
    go_enter Tryz.func14, Tryz.ntmps14
    go_wp2_with fail
    go_ret
    exact ⟨ret_int (by rw [H.out]), rfl⟩
  · have hr : smallZ n m = Int.tmod n (m + 1) := by unfold smallZ; rw [if_neg hneg]
    have H := Lib.hid hr
    clear hr hin HU
    go_enter Tryz.func14, Tryz.ntmps14
    go_wp2_with fail
    go_ret
    exact ⟨ret_int (by rw [H.out]), rfl⟩
end Go.Proofs.YtfbmlnkgjgnnhaaGreatDoor
