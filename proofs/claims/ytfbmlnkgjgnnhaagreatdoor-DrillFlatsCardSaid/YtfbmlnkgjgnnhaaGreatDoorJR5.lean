import Derived.Test.YtfbmlnkgjgnnhaaGreatDoorJR1
import Derived.Deep.MidRow
set_option linter.unusedSimpArgs false
set_option linter.unusedVariables false
namespace Go.Proofs.YtfbmlnkgjgnnhaaGreatDoor
open Go.RowKit
set_option linter.unusedVariables false

def letCells (v : Drl.Nums) : Array Value := Array.ofFn fun i : Fin 26 => Value.int .i64 (v (97 + i.val))
def LetAt (w : World) (V : Nat) (v : Drl.Nums) : Prop := w.heap[V]? = some (.cells (letCells v) 72 (0, 0))
theorem letCells_size (v : Drl.Nums) : (letCells v).size = 26 := by simp [letCells]
theorem letCells_get (v : Drl.Nums) (i : Nat) (h : i < 26) : (letCells v)[i]? = some (.int .i64 (v (97 + i))) := by
  simp [letCells, h]
theorem letCells_set (v : Drl.Nums) (c : Nat) (k : Int) : (letCells v).setIfInBounds c (.int .i64 k) = letCells (Drl.upd v (97 + c) k) := by
  apply Array.ext_getElem?
  intro i
  rw [Array.getElem?_setIfInBounds]
  by_cases hi : i < 26
  · rw [letCells_get _ i hi, letCells_get _ i hi]
    by_cases e : c = i
    · subst e; simp [letCells_size, hi, Drl.upd]
    · rw [if_neg e]; simp [Drl.upd, show ¬ i = c from fun h => e h.symm]
  · rw [Array.getElem?_eq_none (by rw [letCells_size]; omega), Array.getElem?_eq_none (by rw [letCells_size]; omega)]
    by_cases e : c = i
    · subst e; simp [letCells_size, hi]
    · rw [if_neg e]
theorem LetAt.cell {w : World} {V : Nat} {v : Drl.Nums} (h : LetAt w V v) (i : Nat) (hi : i < 26) : w.cell? ⟨V, i, none⟩ = some (.int .i64 (v (97 + i))) := by
  unfold LetAt at h
  simp [World.cell?, h, letCells_get v i hi]
theorem LetAt.frozen {w : World} {V : Nat} {v : Drl.Nums} (h : LetAt w V v) (i : Nat) : w.frozen? ⟨V, i, none⟩ = false := Lib.frozen_of_heap h i
theorem LetAt.lt {w : World} {V : Nat} {v : Drl.Nums} (h : LetAt w V v) : V < w.heap.size := (Array.getElem?_eq_some_iff.1 h).1
theorem LetAt.set {w : World} {V : Nat} {v : Drl.Nums} (h : LetAt w V v) (c : Nat) (k : Int) : LetAt (w.setCell ⟨V, c, none⟩ (.int .i64 k)) V (Drl.upd v (97 + c) k) := by
  unfold LetAt at h ⊢
  simp [World.setCell, Array.getElem?_modify, h, letCells_set]
theorem let_congr {v v' : Drl.Nums} (h : ∀ i, i < 26 → v (97 + i) = v' (97 + i)) : letCells v = letCells v' := by
  unfold letCells
  congr 1
  funext i
  rw [h i.val i.isLt]
theorem lzeros : (#[.int .i64 0, .int .i64 0, .int .i64 0, .int .i64 0, .int .i64 0, .int .i64 0, .int .i64 0, .int .i64 0, .int .i64 0, .int .i64 0, .int .i64 0, .int .i64 0, .int .i64 0, .int .i64 0, .int .i64 0, .int .i64 0, .int .i64 0, .int .i64 0, .int .i64 0, .int .i64 0, .int .i64 0, .int .i64 0, .int .i64 0, .int .i64 0, .int .i64 0, .int .i64 0] : Array Value) = letCells fun _ => 0 := by kernel_rfl

/-- a whole block is written -/
theorem setCells_all (b : Nat) (e : TypeId) : ∀ (vs pre : List Value) (old : List Value) (w : World), w.heap[b]? = some (.cells (pre ++ old).toArray e (0, 0)) → old.length = vs.length → (w.setCells b pre.length vs).heap[b]? = some (.cells (pre ++ vs).toArray e (0, 0))
  | [], pre, old, w, h, hl => by
    have : old = [] := List.eq_nil_of_length_eq_zero hl
    subst this
    exact h
  | v :: vs, pre, [], w, h, hl => by simp at hl
  | v :: vs, pre, o :: old, w, h, hl => by
    have h1 : (w.setCell ⟨b, pre.length, none⟩ v).heap[b]? = some (.cells ((pre ++ [v]) ++ old).toArray e (0, 0)) := by
      rw [heap_set h]
      congr 2
      simp
    have := setCells_all b e vs (pre ++ [v]) old (w.setCell ⟨b, pre.length, none⟩ v) h1 (by simpa using hl)
    simpa [World.setCells] using this
theorem setCells_next (b : Nat) : ∀ (vs : List Value) (o : Nat) (w : World) {B : Nat} {a : World}, Below B a w → B ≤ b → Below B a (w.setCells b o vs)
  | [], _, _, _, _, h, _ => h
  | v :: vs, o, w, _, _, h, hb => setCells_next b vs (o + 1) _ (h.setCell hb v) hb
theorem setCells_other (b c : Nat) (hne : c ≠ b) : ∀ (vs : List Value) (o : Nat) (w : World), (w.setCells b o vs).heap[c]? = w.heap[c]?
  | [], _, _ => rfl
  | v :: vs, o, w => by
    rw [World.setCells, setCells_other b c hne vs (o + 1) _]
    exact Below.heap_setCell _ _ _ _ hne

theorem let_there {w : World} {V : Nat} {v : Drl.Nums} (h : LetAt w V v) : w.there V 0 26 := fun j hj => by
  rw [Nat.zero_add]
  exact ⟨by rw [h.cell j hj]; rfl, h.frozen j⟩
theorem let_range {w : World} {V : Nat} {v : Drl.Nums} (h : LetAt w V v) : w.rangeAt V 0 (letCells v).toList := fun j u hj => by
  rw [Nat.zero_add]
  exact cell_of h (by simpa using hj)
theorem let_one (v : Drl.Nums) : (letCells v).all (·.oneCell') = true := by
  rw [Array.all_eq_true_iff_forall_mem]
  intro u hu
  obtain ⟨i, hi, rfl⟩ := Array.mem_iff_getElem.1 hu
  simp [letCells, Value.oneCell']
theorem let_copy {W : World} {V : Nat} {v0 : Drl.Nums} (v : Drl.Nums) (h : LetAt W V v0) : LetAt (W.setCells V 0 (letCells v).toList) V v := by
  unfold LetAt at h ⊢
  have := setCells_all V 72 (letCells v).toList [] (letCells v0).toList W (by simpa using h) (by simp [letCells_size])
  simpa using this
theorem letters_info : (Tryz.prog.info? 72).map (·.size) = some 26 := by kernel_rfl
theorem letters_under : Tryz.prog.underlying 72 = some (.array 26 3) := by kernel_rfl

theorem load_let {w : World} {ops : Array Oper} {rest : List Oper} {op : Oper} {a : Act} {Q : Exit → Act → World → Prop} (hgd : op.guard = none) (x : Operand) (ho : op.op = .load 72 x)
    (h : ∃ V v, a.eval x = .pointer (some ⟨V, 0, none⟩) ∧ LetAt w V v ∧ wpList Tryz.prog ops Q rest (a.put op.dst (.agg (letCells v))) w) : wpList Tryz.prog ops Q (op :: rest) a w := by
  obtain ⟨V, v, h1, h2, h3⟩ := h
  exact wpList_load_mid hgd 72 x ho V 0 h1 (letCells v).toList (.array 26 3) (let_range h2) letters_under rfl (by rw [Array.length_toList, letCells_size]; exact letters_info) (by rw [Array.toArray_toList]; exact h3)
theorem store_let {w : World} {ops : Array Oper} {rest : List Oper} {op : Oper} {a : Act} {Q : Exit → Act → World → Prop} (hgd : op.guard = none) (x y : Operand) (ho : op.op = .store 72 x y)
    (h : ∃ b v0 v, a.eval x = .pointer (some ⟨b, 0, none⟩) ∧ a.eval y = .agg (letCells v) ∧ LetAt w b v0 ∧ wpList Tryz.prog ops Q rest (a.put op.dst undef) (w.setCells b 0 (letCells v).toList)) : wpList Tryz.prog ops Q (op :: rest) a w := by
  obtain ⟨b, v0, v, h1, h2, h3, h4⟩ := h
  exact wpList_store_mid hgd 72 x y ho b 0 (letCells v) h1 h2 (by rw [letCells_size]; exact let_there h3) (by rw [letCells_size]; exact letters_info) (let_one v) h4

set_option maxRecDepth 100000 in
theorem rnone_any (w : World) :
    Calls Tryz.prog 26 #[] w fun e w' => e = .returned (.agg (letCells Drl.noNums)) ∧ Below w.heap.size w w' := by
  go_enter Tryz.func26, Tryz.ntmps26
  go_wp2
  go_loopw [2] (fun i wr => ∃ k : Nat, k ≤ 26 ∧ i = .int .i64 k ∧ LetAt wr w.heap.size (fun _ => 0) ∧ LetAt wr (w.heap.size + 1) (fun j => if j < 97 + k then -1 else 0) ∧ Below w.heap.size w wr) (fun i _ => 26 - (intOf i).toNat)
  case atStart =>
    refine ⟨0, by omega, rfl, ?_, ?_, ((Below.refl _ w).alloc (Nat.le_refl _) _).alloc (by simp) _⟩
    · unfold LetAt
      rw [lzeros]
      exact heap_old (heap_new _ _)
    · unfold LetAt
      rw [lzeros, let_congr (v := fun j => if j < 97 + 0 then -1 else 0) (v' := fun _ => 0) (fun i hi => if_neg (by omega))]
      exact heap_new2 w _ _
  case round =>
    obtain ⟨k, hk, rfl, hZ, hN, hb⟩ := hrel
    have HZ := Lib.hid hZ
    clear hZ
    by_cases hlt : k < 26
    · have hc := hN.cell k hlt
      have hf := hN.frozen k
      have hN2 := hN.set k (-1)
      have HN := Lib.hid hN2
      have HN1 := Lib.hid hN
      have w1 : IntKind.i64.wrap ((k : Int) + 1) = (k : Int) + 1 := IntWalk.i64_in _ (by omega)
      clear hN2 hN
      go_wp2
      go_roundw
      case rel =>
        refine ⟨k + 1, by omega, by go_num, ?_, ?_, hb.setCell (by show w.heap.size ≤ w.heap.size + 1; omega) _⟩
        · have := HZ.out
          unfold LetAt at this ⊢
          rw [Below.heap_setCell _ _ _ _ (by simp)]
          exact this
        · have := HN.out
          unfold LetAt at this ⊢
          rw [this, let_congr]
          intro i hi
          simp only [Drl.upd]
          by_cases e : i = k
          · subst e; simp
          · rw [if_neg (by omega)]
            by_cases e2 : i < k
            · rw [if_pos (by omega), if_pos (by omega)]
            · rw [if_neg (by omega), if_neg (by omega)]
      case measure => simp [intOf]; omega
    · have hN' : LetAt wr (w.heap.size + 1) Drl.noNums := by
        unfold LetAt at hN ⊢
        rw [hN, let_congr]
        intro i hi
        rw [if_pos (by omega)]; rfl
      have HN := Lib.hid hN'
      clear hN hN'
      go_wp2_with (first
        | (with_reducible refine load_let rfl (.tmp 1) rfl ?_; refine ⟨_, Drl.noNums, rfl, HN.out, ?_⟩)
        | (with_reducible refine store_let rfl (.tmp 0) (.tmp 9) rfl ?_; refine ⟨_, _, Drl.noNums, rfl, rfl, HZ.out, ?_⟩; have hz := let_copy Drl.noNums HZ.out; have hb3 := setCells_next w.heap.size (letCells Drl.noNums).toList 0 _ hb (Nat.le_refl _); generalize wr.setCells w.heap.size 0 (letCells Drl.noNums).toList = W3 at hz hb3 ⊢))
      refine bodyPost_ret (results_cell_row rfl _ _ w.heap.size 72 (letCells Drl.noNums) (0, 0) (.array 26 3) (by rfl) hz letters_under rfl (by rw [letCells_size]; exact letters_info)) rfl ?_
      exact ⟨rfl, hb3⟩
end Go.Proofs.YtfbmlnkgjgnnhaaGreatDoor
