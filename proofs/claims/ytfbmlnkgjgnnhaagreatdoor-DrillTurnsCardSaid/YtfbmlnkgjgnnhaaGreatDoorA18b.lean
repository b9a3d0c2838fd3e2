import Derived.Test.YtfbmlnkgjgnnhaaGreatDoorA18
namespace Go.Proofs.YtfbmlnkgjgnnhaaGreatDoor
open Go.RowKit

theorem step_append_at {P : Program} {w : World} {ops : Array Oper} {o : Oper} {a : Act} {K : Act → World → Prop} {Q : Exit → Act → World → Prop} {E : Prop} (hgd : o.guard = none) (s x : Operand) (t : TypeId)
    (ho : o.op = .call { callee := .builtin .append, args := #[s, x], argTypes := #[t, t] }) (h : ∃ r w', (Builtin.append_ #[t, t] o.type #[a.eval s, a.eval x]).run P w = .ok r w' ∧ K (a.put o.dst r) w') :
    if Region.wanted o (yielded ops a.tmps) = true then Oper.wp P o a w K Q else E := by
  have hw : Region.wanted o (yielded ops a.tmps) = true := by simp [Region.wanted, hgd]
  rw [if_pos hw]
  obtain ⟨r, w', hr, h2⟩ := h
  unfold Oper.wp execOp
  simp only [ho, resolve, invoke, builtin, Sem.run_bind, Sem.run_pure, Result.andThen_ok, List.map_toArray, List.map_cons, List.map_nil, hr]
  exact h2

theorem info_Drilled : (Tryz.prog.info? 37).map (fun i => (i.zero, i.size, i.bytes)) = some (some (.agg #[.int .i64 0, .string ⟨#[]⟩, .bool false]), 3, 32) := by kernel_rfl

theorem stepCells_len (l : List Drl.Dr) : (stepCells l).length = l.length * 3 := by
  induction l with
  | nil => rfl
  | cons a l ih => simp only [stepCells, List.flatMap_cons, List.length_append] at ih ⊢; rw [ih]; simp; omega
theorem stepCells_snoc (l : List Drl.Dr) (x : Drl.Dr) : stepCells (l ++ [x]) = stepCells l ++ [.int .i64 x.line, strV x.text, .bool x.want] := by simp [stepCells]

theorem RunAt.said_ {w : World} {B R : Nat} {sv : Value} {st : Drl.PSt} (h : RunAt w B R sv st) : RunAt (w.setCell ⟨R, 1, none⟩ (.bool true)) B R sv { st with said := true } ∧ Left B R w (w.setCell ⟨R, 1, none⟩ (.bool true)) := by
  have hk : Keep (fun k => k = R) (fun e => e = 37) w (w.setCell ⟨R, 1, none⟩ (.bool true)) := (Keep.refl (fun k => k = R) (fun e => e = 37) w).setCell ⟨R, 1, none⟩ rfl _
  have hk' : Keep (fun k => k = R) (fun _ => False) w (w.setCell ⟨R, 1, none⟩ (.bool true)) := (Keep.refl (fun k => k = R) (fun _ => False) w).setCell ⟨R, 1, none⟩ rfl _
  refine ⟨⟨?_, ?_, h.base, h.turns, h.steps⟩, hk, (Below.refl B w).setCell h.base _⟩
  · rw [heap_set h.at_]; simp
  · exact ownsRow_keep h.row hk' (fun b c fz hb e => by subst e; exact ne_of_type hb h.at_ (by decide) rfl) id

/-- a step joins -/
theorem RunAt.put {W : World} {B R : Nat} {sv : Value} {st : Drl.PSt} (h : RunAt W B R sv st) (hl : st.steps.length < 4096) (x : Drl.Dr) :
    ∃ g cap w1, (Builtin.append_ #[22, 22] 22 #[sv, .slice (some ⟨W.heap.size, 0, none⟩) 1 1]).run Tryz.prog (W.alloc (.cells #[.int .i64 x.line, strV x.text, .bool x.want] 37)) = .ok (.slice (some ⟨g, 0, none⟩) (st.steps.length + 1) cap) w1 ∧
      w1.frozen? ⟨R, 0, none⟩ = false ∧ w1.cell? ⟨R, 0, none⟩ = some sv ∧
      RunAt (w1.setCell ⟨R, 0, none⟩ (.slice (some ⟨g, 0, none⟩) (st.steps.length + 1) cap)) B R (.slice (some ⟨g, 0, none⟩) (st.steps.length + 1) cap) { st with steps := st.steps ++ [x] } ∧
      Left B R W (w1.setCell ⟨R, 0, none⟩ (.slice (some ⟨g, 0, none⟩) (st.steps.length + 1) cap)) := by
  have hRs := lt_of h.at_
  have hBs : B ≤ W.heap.size := by have := h.base; omega
  obtain ⟨i0, hi, hz0, hz1, hz2⟩ := info_parts info_Drilled
  obtain ⟨g, cap, w1, h1, h2, h3, h4, _⟩ := run_append_lies (P := Tryz.prog) (W.alloc (.cells #[.int .i64 x.line, strV x.text, .bool x.want] 37)) 22 22 B 37 i0 _ 3 32 Tryz.underlying22 hi hz0 hz1 hz2 rfl (by decide) sv st.steps.length (stepCells st.steps) (h.row.alloc _) ⟨W.heap.size, 0, none⟩ 1 1 [.int .i64 x.line, strV x.text, .bool x.want] rfl (World.news_of_block (heap_new W _)) (by simp [Value.oneCell', strV]) (by decide) (by unfold maxLen; omega) (by omega) (by simp; omega) _ rfl
  have hrow : ∀ g, sv.ownBlock = some g → ∃ c fz, W.heap[g]? = some (.cells c 37 fz) ∧ B ≤ g := fun g hg => by
    obtain ⟨c, fz, h1, h2⟩ := ownsRow_row h.row g hg
    exact ⟨c, fz, h1, h2⟩
  have hR : ∀ g, sv.ownBlock = some g → g ≠ R := fun g hg e => by
    obtain ⟨c, fz, h1, _⟩ := hrow g hg
    rw [e] at h1
    exact ne_of_type h1 h.at_ (by decide) rfl
  have r1 : w1.heap[R]? = some (.cells #[sv, .bool st.said, .int .i64 st.turns] 55 (0, 0)) := grown_heap h3 (heap_old h.at_) fun e => hR R e rfl
  have k1 : Keep (fun k => k = R) (fun e => e = 37) W w1 := ((Keep.refl (fun k => k = R) (fun e => e = 37) W).alloc _).grown h3 fun g hg => by
    obtain ⟨c, fz, h1, _⟩ := hrow g hg
    exact .inr ⟨c, _, fz, heap_old h1, rfl⟩
  have b1 : Below B W w1 := ((Below.refl B W).alloc hBs _).grown h3 (by simp; omega) fun g hg => (hrow g hg).choose_spec.choose_spec.2
  have k2 : Keep (fun k => k = R) (fun _ => False) w1 (w1.setCell ⟨R, 0, none⟩ (.slice (some ⟨g, 0, none⟩) (st.steps.length + 1) cap)) := (Keep.refl (fun k => k = R) (fun _ => False) w1).setCell ⟨R, 0, none⟩ rfl _
  have k3 : Keep (fun k => k = R) (fun e => e = 37) w1 (w1.setCell ⟨R, 0, none⟩ (.slice (some ⟨g, 0, none⟩) (st.steps.length + 1) cap)) := (Keep.refl (fun k => k = R) (fun e => e = 37) w1).setCell ⟨R, 0, none⟩ rfl _
  refine ⟨g, cap, w1, h1, free_of r1 0, cell_of r1 rfl, ⟨?_, ?_, h.base, h.turns, by simp; omega⟩, k1.trans k3, b1.setCell h.base _⟩
  · rw [heap_set r1]; simp
  · simp only [List.length_append, List.length_singleton, stepCells_snoc]
    exact ownsRow_keep h2 k2 (fun b c fz hb e => by subst e; exact ne_of_type hb r1 (by decide) rfl) id
end Go.Proofs.YtfbmlnkgjgnnhaaGreatDoor
