import Derived.Test.YtfbmlnkgjgnnhaaGreatDoorA18b
import Derived.Deep.MidRow
namespace Go.Proofs.YtfbmlnkgjgnnhaaGreatDoor
open Go.RowKit
set_option linter.unusedVariables false

/-- a whole block is written -/
theorem setCells_block (b : Nat) (e : TypeId) : ∀ (vs pre : List Value) (old : List Value) (w : World), w.heap[b]? = some (.cells (pre ++ old).toArray e (0, 0)) → old.length = vs.length → (w.setCells b pre.length vs).heap[b]? = some (.cells (pre ++ vs).toArray e (0, 0))
  | [], pre, old, w, h, hl => by
    have : old = [] := List.eq_nil_of_length_eq_zero hl
    subst this
    exact h
  | v :: vs, pre, [], w, h, hl => by simp at hl
  | v :: vs, pre, o :: old, w, h, hl => by
    have h1 : (w.setCell ⟨b, pre.length, none⟩ v).heap[b]? = some (.cells ((pre ++ [v]) ++ old).toArray e (0, 0)) := by
      rw [heap_set h]
      congr 2
      simp
    have := setCells_block b e vs (pre ++ [v]) old (w.setCell ⟨b, pre.length, none⟩ v) h1 (by simpa using hl)
    simpa [World.setCells] using this
theorem setCells_far (b : Nat) : ∀ (vs : List Value) (o : Nat) (w : World) {B : Nat} {a : World}, Below B a w → B ≤ b → Below B a (w.setCells b o vs)
  | [], _, _, _, _, h, _ => h
  | v :: vs, o, w, _, _, h, hb => setCells_far b vs (o + 1) _ (h.setCell hb v) hb

theorem nums_there {w : World} {V : Nat} {v : Drl.Nums} (h : NumsAt w V v) : w.there V 0 128 := fun j hj => by
  rw [Nat.zero_add]
  exact ⟨by rw [h.cell j hj]; rfl, h.frozen j⟩
theorem nums_range {w : World} {V : Nat} {v : Drl.Nums} (h : NumsAt w V v) : w.rangeAt V 0 (numsCells v).toList := fun j u hj => by
  rw [Nat.zero_add]
  exact cell_of h (by simpa using hj)
theorem nums_one (v : Drl.Nums) : (numsCells v).all (·.oneCell') = true := by
  rw [Array.all_eq_true_iff_forall_mem]
  intro u hu
  obtain ⟨i, hi, rfl⟩ := Array.mem_iff_getElem.1 hu
  simp [numsCells, Value.oneCell']
/-- the numbers are copied -/
theorem nums_copy {W : World} {V : Nat} {v0 : Drl.Nums} (v : Drl.Nums) (h : NumsAt W V v0) : NumsAt (W.setCells V 0 (numsCells v).toList) V v := by
  unfold NumsAt at h ⊢
  have := setCells_block V 101 (numsCells v).toList [] (numsCells v0).toList W (by simpa using h) (by simp [numsCells_size])
  simpa using this
theorem numbers_info : (Tryz.prog.info? 101).map (·.size) = some 128 := by kernel_rfl
theorem numbers_under : Tryz.prog.underlying 101 = some (.array 128 3) := by kernel_rfl

theorem load_row {w : World} {ops : Array Oper} {rest : List Oper} {op : Oper} {a : Act} {Q : Exit → Act → World → Prop} (hgd : op.guard = none) (x : Operand) (ho : op.op = .load 101 x)
    (h : ∃ V v, a.eval x = .pointer (some ⟨V, 0, none⟩) ∧ NumsAt w V v ∧ wpList Tryz.prog ops Q rest (a.put op.dst (.agg (numsCells v))) w) : wpList Tryz.prog ops Q (op :: rest) a w := by
  obtain ⟨V, v, h1, h2, h3⟩ := h
  exact wpList_load_mid hgd 101 x ho V 0 h1 (numsCells v).toList (.array 128 3) (nums_range h2) numbers_under rfl (by rw [Array.length_toList, numsCells_size]; exact numbers_info) (by rw [Array.toArray_toList]; exact h3)
theorem store_row {w : World} {ops : Array Oper} {rest : List Oper} {op : Oper} {a : Act} {Q : Exit → Act → World → Prop} (hgd : op.guard = none) (x y : Operand) (ho : op.op = .store 101 x y)
    (h : ∃ b v0 v, a.eval x = .pointer (some ⟨b, 0, none⟩) ∧ a.eval y = .agg (numsCells v) ∧ NumsAt w b v0 ∧ wpList Tryz.prog ops Q rest (a.put op.dst undef) (w.setCells b 0 (numsCells v).toList)) : wpList Tryz.prog ops Q (op :: rest) a w := by
  obtain ⟨b, v0, v, h1, h2, h3, h4⟩ := h
  exact wpList_store_mid hgd 101 x y ho b 0 (numsCells v) h1 h2 (by rw [numsCells_size]; exact nums_there h3) (by rw [numsCells_size]; exact numbers_info) (nums_one v) h4

theorem alloc_row {w : World} {ops : Array Oper} {rest : List Oper} {op : Oper} {a : Act} {Q : Exit → Act → World → Prop} (hgd : op.guard = none) (ho : op.op = .alloc 101)
    (h : wpList Tryz.prog ops Q rest (a.put op.dst (.pointer (some ⟨w.heap.size, 0, none⟩))) (w.alloc (.cells (numsCells fun _ => 0) 101))) : wpList Tryz.prog ops Q (op :: rest) a w :=
  wpList_plain hgd fun K hK => by
    rw [← zeros_nums] at h
    unfold Oper.wp execOp
    simp only [ho, Instr.alloc, Sem.run_bind, Sem.run_pure, Result.andThen_ok, Tryz.zeroValue101, newVar, newRow, newObj, Value.cells]
    exact hK _ _ h

/-! ### what stays -/
theorem NumsAt.left {B R : Nat} {w w' : World} {V : Nat} {v : Drl.Nums} (h : NumsAt w V v) (hL : Left B R w w') {c : Array Value} (hR : w.heap[R]? = some (.cells c 55 (0, 0))) : NumsAt w' V v :=
  hL.keep.cells h (ne_of_type h hR (by decide)) (by decide)
theorem Nodes.left {B R : Nat} {w w' : World} {Bt : Nat} {ad : Nat → Nat} {wv bv : Nat → Value} {ar : List Drl.Nd} (h : Nodes w Bt ad wv bv ar) (hL : Left B R w w') {c : Array Value} (hR : w.heap[R]? = some (.cells c 55 (0, 0))) : Nodes w' Bt ad wv bv ar :=
  h.keep hL.keep (fun b c' e fz hb he => by
    rintro rfl
    rw [hb] at hR
    cases hR
    rcases he with he | he | he <;> exact absurd he (by decide)) (by decide) (by decide) (by decide)

/-- the tree as it is gone through: its lists hold nodes that may stand there -/
structure Good (ar : List Drl.Nd) : Prop where
  pos : 0 < ar.length
  body : ∀ i, i < ar.length → ∀ n ∈ (Drl.nd ar i).body, n < ar.length ∧ 1 ≤ (Drl.nd ar n).ws.length ∧ (∀ t ∈ (Drl.nd ar n).ws, t.length ≤ 65536) ∧ (Drl.wd (Drl.nd ar n).ws 0 = Drl.wRepeat → (Drl.nd ar n).ws.length = 2) ∧ (Drl.wd (Drl.nd ar n).ws 0 = Drl.wFor → (Drl.nd ar n).ws.length = 4) ∧
    (Drl.wd (Drl.nd ar n).ws 0 = Drl.wUse → ∃ d, (Drl.nd ar n).use = some d) ∧ (Drl.wd (Drl.nd ar n).ws 0 = Drl.wExpect → 6 ≤ (Drl.nd ar n).text.length) ∧ (Drl.nd ar n).text.length ≤ 65536
  uselt : ∀ i, i < ar.length → ∀ d, (Drl.nd ar i).use = some d → d < ar.length
  blen : ∀ i, i < ar.length → (Drl.nd ar i).body.length ≤ 65536
  letter : ∀ i, i < ar.length → (Drl.nd ar i).letter.toNat < 128

/-- where going through stands -/
structure Stand (w : World) (B R Bt : Nat) (sv : Value) (st : Drl.PSt) (ad : Nat → Nat) (wv bv : Nat → Value) (ar : List Drl.Nd) : Prop where
  env : Env w
  hB : 10 ≤ B
  run : RunAt w B R sv st
  nodes : Nodes w Bt ad wv bv ar

theorem Stand.left {w w' : World} {B R Bt : Nat} {sv sv' : Value} {st st' : Drl.PSt} {ad : Nat → Nat} {wv bv : Nat → Value} {ar : List Drl.Nd} (h : Stand w B R Bt sv st ad wv bv ar) (hL : Left B R w w') (hr : RunAt w' B R sv' st') : Stand w' B R Bt sv' st' ad wv bv ar :=
  ⟨h.env.below hL.below h.hB, h.hB, hr, h.nodes.left hL h.run.at_⟩
theorem Stand.next {w w' : World} {B R Bt : Nat} {sv : Value} {st : Drl.PSt} {ad : Nat → Nat} {wv bv : Nat → Value} {ar : List Drl.Nd} (h : Stand w B R Bt sv st ad wv bv ar) (hb : Below w.heap.size w w') : Stand w' B R Bt sv st ad wv bv ar := by
  have hk : Keep (fun _ => False) (fun _ => False) w w' := .of_next hb
  exact ⟨h.env.next hb, h.hB, h.run.next hb, h.nodes.keep hk (fun _ _ _ _ _ _ => id) id id id⟩

def PlayOk (K : Nat) : Prop := ∀ (w : World) (B R Bt V i : Nat) (sv : Value) (st : Drl.PSt) (ad : Nat → Nat) (wv bv : Nat → Value) (ar : List Drl.Nd) (v : Drl.Nums) (r : Except Drl.Err Drl.PSt),
  Stand w B R Bt sv st ad wv bv ar → Good ar → NumsAt w V v → (∀ c, v c ≤ 999999) → i < ar.length → Drl.run ar K (.seq (Drl.nd ar i).body v) st = some r →
    Calls Tryz.prog 22 #[.pointer (some ⟨R, 0, none⟩), bv i, .pointer (some ⟨V, 0, none⟩)] w (PlayPost w B R r)
def TimesOk (K : Nat) : Prop := ∀ (w : World) (B R Bt V n d : Nat) (sv : Value) (st : Drl.PSt) (ad : Nat → Nat) (wv bv : Nat → Value) (ar : List Drl.Nd) (v : Drl.Nums) (a b : Int) (r : Except Drl.Err Drl.PSt),
  Stand w B R Bt sv st ad wv bv ar → Good ar → NumsAt w V v → (∀ c, v c ≤ 999999) → n < ar.length → d < ar.length → 0 ≤ a → a ≤ 999999 → b ≤ 999999 → Drl.run ar K (.times n (Drl.nd ar d).body v a b) st = some r →
    Calls Tryz.prog 38 #[.pointer (some ⟨R, 0, none⟩), .pointer (some ⟨ad n, 0, none⟩), bv d, .pointer (some ⟨V, 0, none⟩), .int .i64 a, .int .i64 b] w (PlayPost w B R r)
end Go.Proofs.YtfbmlnkgjgnnhaaGreatDoor
