import Derived.Test.YtfbmlnkgjgnnhaaGreatDoorA3
namespace Go.Proofs.YtfbmlnkgjgnnhaaGreatDoor
open Go.RowKit

/-! ### the numbers that letters stand for, in memory -/
def numsCells (v : Drl.Nums) : Array Value := Array.ofFn fun i : Fin 128 => Value.int .i64 (v i.val)
def NumsAt (w : World) (V : Nat) (v : Drl.Nums) : Prop := w.heap[V]? = some (.cells (numsCells v) 101 (0, 0))

theorem numsCells_size (v : Drl.Nums) : (numsCells v).size = 128 := by simp [numsCells]
theorem numsCells_get (v : Drl.Nums) (i : Nat) (h : i < 128) : (numsCells v)[i]? = some (.int .i64 (v i)) := by
  simp [numsCells, h]
theorem numsCells_set (v : Drl.Nums) (c : Nat) (k : Int) : (numsCells v).setIfInBounds c (.int .i64 k) = numsCells (Drl.upd v c k) := by
  apply Array.ext_getElem?
  intro i
  rw [Array.getElem?_setIfInBounds]
  by_cases hi : i < 128
  · rw [numsCells_get _ i hi, numsCells_get _ i hi]
    by_cases e : c = i
    · subst e; simp [numsCells_size, hi, Drl.upd]
    · rw [if_neg e]; simp [Drl.upd, Ne.symm e]
  · rw [Array.getElem?_eq_none (by rw [numsCells_size]; omega), Array.getElem?_eq_none (by rw [numsCells_size]; omega)]
    by_cases e : c = i
    · subst e; simp [numsCells_size, hi]
    · rw [if_neg e]
theorem NumsAt.cell {w : World} {V : Nat} {v : Drl.Nums} (h : NumsAt w V v) (i : Nat) (hi : i < 128) : w.cell? ⟨V, i, none⟩ = some (.int .i64 (v i)) := by
  unfold NumsAt at h
  simp [World.cell?, h, numsCells_get v i hi]
theorem NumsAt.frozen {w : World} {V : Nat} {v : Drl.Nums} (h : NumsAt w V v) (i : Nat) : w.frozen? ⟨V, i, none⟩ = false := Lib.frozen_of_heap h i
theorem NumsAt.lt {w : World} {V : Nat} {v : Drl.Nums} (h : NumsAt w V v) : V < w.heap.size := (Array.getElem?_eq_some_iff.1 h).1
theorem NumsAt.set {w : World} {V : Nat} {v : Drl.Nums} (h : NumsAt w V v) (c : Nat) (k : Int) : NumsAt (w.setCell ⟨V, c, none⟩ (.int .i64 k)) V (Drl.upd v c k) := by
  unfold NumsAt at h ⊢
  simp [World.setCell, Array.getElem?_modify, h, numsCells_set]
theorem nums_congr {v v' : Drl.Nums} (h : ∀ i, i < 128 → v i = v' i) : numsCells v = numsCells v' := by
  unfold numsCells
  congr 1
  funext i
  rw [h i.val i.isLt]

theorem zeros_rep : Tryz.zeroCells101 = Array.replicate 128 (Value.int .i64 0) := by kernel_rfl
theorem zeros_nums : Tryz.zeroCells101 = numsCells fun _ => 0 := by
  rw [zeros_rep]
  apply Array.ext_getElem?
  intro i
  by_cases hi : i < 128
  · rw [numsCells_get _ i hi]; simp [hi]
  · rw [Array.getElem?_eq_none (by simp; omega), Array.getElem?_eq_none (by rw [numsCells_size]; omega)]

set_option maxRecDepth 100000 in
theorem none_any (w : World) :
    Calls Tryz.prog 23 #[] w fun e w' => e = .returned (.pointer (some ⟨w.heap.size, 0, none⟩)) ∧ NumsAt w' w.heap.size Drl.noNums ∧ Below w.heap.size w w' := by
  go_enter Tryz.func23, Tryz.ntmps23
  go_wp2
  go_loopw [5] (fun i wr => ∃ k : Nat, k ≤ 128 ∧ i = .int .i64 k ∧ NumsAt wr w.heap.size (fun j => if j < k then -1 else 0) ∧ Below w.heap.size w wr) (fun i _ => 128 - (intOf i).toNat)
  case atStart =>
    refine ⟨0, by omega, rfl, ?_, (Below.refl _ w).alloc (Nat.le_refl _) _⟩
    unfold NumsAt
    rw [heap_alloc_new, zeros_nums]
    simp
  case round =>
    obtain ⟨k, hk, rfl, hN, hb⟩ := hrel
    by_cases hlt : k < 128
    · have hc := hN.cell k hlt
      have hf := hN.frozen k
      have hN2 := hN.set k (-1)
      have HN := Lib.hid hN2
      have HN1 := Lib.hid hN
      clear hN2 hN
      go_wp2
      go_roundw
      case rel =>
        refine ⟨k + 1, by omega, by go_num, ?_, hb.setCell (Nat.le_refl _) _⟩
        have := HN.out
        unfold NumsAt at this ⊢
        rw [this, nums_congr]
        intro i hi
        simp only [Drl.upd]
        by_cases e : i = k
        · subst e; simp
        · rw [if_neg e]
          by_cases e2 : i < k
          · rw [if_pos e2, if_pos (by omega)]
          · rw [if_neg e2, if_neg (by omega)]
      case measure => simp [intOf]; omega
    · go_wp2
      go_ret
      refine ⟨rfl, ?_, hb⟩
      unfold NumsAt at hN ⊢
      rw [hN, nums_congr]
      intro i hi
      rw [if_pos (by omega)]; rfl
end Go.Proofs.YtfbmlnkgjgnnhaaGreatDoor
