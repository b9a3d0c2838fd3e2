import Derived.Test.YtfbmlnkgjgnnhaaGreatDoorJR10
import Derived.Test.YtfbmlnkgjgnnhaaGreatDoorJA17
import Derived.Test.YtfbmlnkgjgnnhaaGreatDoorJA14
set_option linter.unusedSimpArgs false
set_option linter.unusedVariables false
namespace Go.Proofs.YtfbmlnkgjgnnhaaGreatDoor
open Go.RowKit

def _root_.Drl.okB : Except Drl.Err Drl.PSt → Bool
  | .ok _ => true
  | .error _ => false
/-- a step joins, or may not -/
def _root_.Drl.stepD (x : Drl.Dr) (st : Drl.PSt) : Except Drl.Err Drl.PSt :=
  if x.want = true ∧ st.said = false then .error (x.line, 296)
  else if st.steps.length = 4096 then .error (x.line, 294)
  else .ok { st with steps := st.steps ++ [x], said := true }
theorem _root_.Drl.step_eq (n : Drl.Nd) (v : Drl.Nums) (st : Drl.PSt) : Drl.step n v st = Drl.stepD (Drl.drOf n v) st := by
  have : (Drl.drOf n v).line = n.at_ := by unfold Drl.drOf; split <;> rfl
  unfold Drl.step Drl.stepD
  rw [this]

/-- the sheet, all of its cells -/
def ShBlk (w : World) (R : Nat) (lv kv ev : Value) (cl : Int) (sv : Value) (tn : Int) (sd : Bool) (er at' : Int) : Prop :=
  w.heap[R]? = some (.cells #[lv, kv, ev, .int .i64 cl, sv, .int .i64 tn, .bool sd, .int .i64 er, .int .i64 at'] 69 (0, 0))
structure WAt (w : World) (B R : Nat) (lv kv ev : Value) (cl : Int) (sv : Value) (st : Drl.PSt) : Prop where
  at_ : ShBlk w R lv kv ev cl sv st.turns st.said 0 0
  row : w.ownsRow B 37 3 sv st.steps.length (stepCells st.steps)
  base : B ≤ R
  turns : st.turns ≤ 65536
  steps : st.steps.length ≤ 4096
/-- an error stands in the sheet -/
def ErrSh (w : World) (R : Nat) (lv kv ev : Value) (x : Drl.Err) : Prop := x.2 ≠ 0 ∧ ∃ cl sv tn sd, ShBlk w R lv kv ev cl sv tn sd (x.2 : Nat) (x.1 : Nat)

/-- what a call leaves of the sheet -/
def RPost (w : World) (B R : Nat) (lv kv ev : Value) (cl : Int) (r : Except Drl.Err Drl.PSt) (w' : World) : Prop :=
  Left B R w w' ∧ match r with
    | .error x => ErrSh w' R lv kv ev x
    | .ok st => ∃ sv, WAt w' B R lv kv ev cl sv st

theorem WAt.lt {w : World} {B R : Nat} {lv kv ev : Value} {cl : Int} {sv : Value} {st : Drl.PSt} (h : WAt w B R lv kv ev cl sv st) : R < w.heap.size := lt_of h.at_
theorem WAt.next {w w' : World} {B R : Nat} {lv kv ev : Value} {cl : Int} {sv : Value} {st : Drl.PSt} (h : WAt w B R lv kv ev cl sv st) (hb : Below w.heap.size w w') : WAt w' B R lv kv ev cl sv st := by
  have hk : Keep (fun _ => False) (fun _ => False) w w' := .of_next hb
  exact ⟨hk.cells h.at_ id id, ownsRow_keep h.row hk (fun _ _ _ _ => id) id, h.base, h.turns, h.steps⟩

theorem left_set {w : World} {B R : Nat} (hB : B ≤ R) (i : Nat) (v : Value) : Left B R w (w.setCell ⟨R, i, none⟩ v) :=
  ⟨(Keep.refl (fun k => k = R) (fun e => e = 37) w).setCell ⟨R, i, none⟩ rfl _, (Below.refl B w).setCell hB _⟩
theorem row_set {w : World} {B R : Nat} {c : Array Value} (hR : w.heap[R]? = some (.cells c 69 (0, 0))) {sv : Value} {n : Nat} {xs : List Value} (h : w.ownsRow B 37 3 sv n xs) (i : Nat) (v : Value) : (w.setCell ⟨R, i, none⟩ v).ownsRow B 37 3 sv n xs :=
  ownsRow_keep h ((Keep.refl (fun k => k = R) (fun _ => False) w).setCell ⟨R, i, none⟩ rfl _) (fun b c fz hb e => by subst e; exact ne_of_type hb hR (by decide) rfl) id

set_option maxRecDepth 100000 in
set_option maxHeartbeats 1000000 in
theorem rturn_ok (w : World) (B R : Nat) (lv kv ev : Value) (cl : Int) (sv : Value) (st : Drl.PSt) (h : WAt w B R lv kv ev cl sv st) (at_ : Nat) :
    Calls Tryz.prog 49 #[.pointer (some ⟨R, 0, none⟩), .int .i64 at_] w fun e w' => RPost w B R lv kv ev cl (Drl.turn at_ st) w' ∧ e = .returned (.bool (Drl.okB (Drl.turn at_ st))) := by
  have ht := h.turns
  have c5 : w.cell? ⟨R, 5, none⟩ = some (.int .i64 st.turns) := cell_of h.at_ rfl
  have z5 : w.frozen? ⟨R, 5, none⟩ = false := free_of h.at_ 5
  have c7 : w.cell? ⟨R, 7, none⟩ = some (.int .i64 0) := cell_of h.at_ rfl
  have c8 : w.cell? ⟨R, 8, none⟩ = some (.int .i64 0) := cell_of h.at_ rfl
  have z7 : w.frozen? ⟨R, 7, none⟩ = false := free_of h.at_ 7
  have z8 : w.frozen? ⟨R, 8, none⟩ = false := free_of h.at_ 8
  have w1 : IntKind.i64.wrap ((st.turns : Int) + 1) = (st.turns : Int) + 1 := IntWalk.i64_in _ (by omega)
  by_cases e : st.turns = 65536
  · have e1 : (65536 : Int) < (st.turns : Int) + 1 := by omega
    have HE := Lib.hid e
    have H := Lib.hid h
    clear e h
    go_enter Tryz.func49, Tryz.ntmps49
    go_wp2_with fail
    go_ret
    have hr : Drl.turn at_ st = .error (at_, 294) := by simp [Drl.turn, HE.out]
    rw [hr]
    refine ⟨⟨?_, (show (294 : Nat) ≠ 0 by decide), cl, sv, (st.turns : Int) + 1, st.said, ?_⟩, rfl⟩
    · exact ((left_set H.out.base 5 _).trans (left_set H.out.base 7 _)).trans (left_set H.out.base 8 _)
    · unfold ShBlk
      rw [heap_set (heap_set (heap_set H.out.at_ _) _) _]
      rfl
  · have e1 : ¬ (65536 : Int) < (st.turns : Int) + 1 := by omega
    have HE := Lib.hid e
    have H := Lib.hid h
    clear e h
    go_enter Tryz.func49, Tryz.ntmps49
    go_wp2_with fail
    go_ret
    have hr : Drl.turn at_ st = .ok { st with turns := st.turns + 1 } := by simp [Drl.turn, HE.out]
    rw [hr]
    refine ⟨⟨left_set H.out.base 5 _, sv, ?_, row_set H.out.at_ H.out.row _ _, H.out.base, by dsimp only; have := HE.out; omega, H.out.steps⟩, rfl⟩
    unfold ShBlk
    rw [heap_set H.out.at_]
    simp

/-! ### a step -/
/-- a step is put behind the others -/
theorem WAt.put {W : World} {B R : Nat} {lv kv ev : Value} {cl : Int} {sv : Value} {st : Drl.PSt} (h : WAt W B R lv kv ev cl sv st) (hl : st.steps.length < 4096) (x : Drl.Dr) :
    ∃ g cap w1, (Builtin.append_ #[22, 22] 22 #[sv, .slice (some ⟨W.heap.size, 0, none⟩) 1 1]).run Tryz.prog (W.alloc (.cells #[.int .i64 x.line, strV x.text, .bool x.want] 37)) = .ok (.slice (some ⟨g, 0, none⟩) (st.steps.length + 1) cap) w1 ∧
      w1.frozen? ⟨R, 4, none⟩ = false ∧ w1.cell? ⟨R, 4, none⟩ = some sv ∧
      WAt (w1.setCell ⟨R, 4, none⟩ (.slice (some ⟨g, 0, none⟩) (st.steps.length + 1) cap)) B R lv kv ev cl (.slice (some ⟨g, 0, none⟩) (st.steps.length + 1) cap) { st with steps := st.steps ++ [x] } ∧
      Left B R W (w1.setCell ⟨R, 4, none⟩ (.slice (some ⟨g, 0, none⟩) (st.steps.length + 1) cap)) := by
  have hRs := lt_of h.at_
  have hBs : B ≤ W.heap.size := by have := h.base; omega
  obtain ⟨i0, hi, hz0, hz1, hz2⟩ := info_parts info_Drilled
  obtain ⟨g, cap, w1, h1, h2, h3, h4, _⟩ := run_append_lies (P := Tryz.prog) (W.alloc (.cells #[.int .i64 x.line, strV x.text, .bool x.want] 37)) 22 22 B 37 i0 _ 3 32 Tryz.underlying22 hi hz0 hz1 hz2 rfl (by decide) sv st.steps.length (stepCells st.steps) (h.row.alloc _) ⟨W.heap.size, 0, none⟩ 1 1 [.int .i64 x.line, strV x.text, .bool x.want] rfl (World.news_of_block (heap_new W _)) (by simp [Value.oneCell', strV]) (by decide) (by unfold maxLen; omega) (by omega) (by simp; omega) _ rfl
  have hrow : ∀ g, sv.ownBlock = some g → ∃ c fz, W.heap[g]? = some (.cells c 37 fz) ∧ B ≤ g := fun g hg => by
    obtain ⟨c, fz, h1, h2⟩ := ownsRow_row h.row g hg
    exact ⟨c, fz, h1, h2⟩
  have hR : ∀ g, sv.ownBlock = some g → g ≠ R := fun g hg e => by
    obtain ⟨c, fz, h1, _⟩ := hrow g hg
    rw [e] at h1
    exact ne_of_type h1 h.at_ (by decide) rfl
  have r1 : ShBlk w1 R lv kv ev cl sv st.turns st.said 0 0 := grown_heap h3 (heap_old h.at_) fun e => hR R e rfl
  have k1 : Keep (fun k => k = R) (fun e => e = 37) W w1 := ((Keep.refl (fun k => k = R) (fun e => e = 37) W).alloc _).grown h3 fun g hg => by
    obtain ⟨c, fz, h1, _⟩ := hrow g hg
    exact .inr ⟨c, _, fz, heap_old h1, rfl⟩
  have b1 : Below B W w1 := ((Below.refl B W).alloc hBs _).grown h3 (by simp; omega) fun g hg => (hrow g hg).choose_spec.choose_spec.2
  have k3 : Keep (fun k => k = R) (fun e => e = 37) w1 (w1.setCell ⟨R, 4, none⟩ (.slice (some ⟨g, 0, none⟩) (st.steps.length + 1) cap)) := (Keep.refl (fun k => k = R) (fun e => e = 37) w1).setCell ⟨R, 4, none⟩ rfl _
  refine ⟨g, cap, w1, h1, free_of r1 4, cell_of r1 rfl, ⟨?_, ?_, h.base, h.turns, by simp; omega⟩, k1.trans k3, b1.setCell h.base _⟩
  · unfold ShBlk; rw [heap_set r1]; simp
  · simp only [List.length_append, List.length_singleton, stepCells_snoc]
    exact row_set r1 h2 _ _

theorem WAt.said_ {w : World} {B R : Nat} {lv kv ev : Value} {cl : Int} {sv : Value} {st : Drl.PSt} (h : WAt w B R lv kv ev cl sv st) : WAt (w.setCell ⟨R, 6, none⟩ (.bool true)) B R lv kv ev cl sv { st with said := true } := by
  refine ⟨?_, row_set h.at_ h.row _ _, h.base, h.turns, h.steps⟩
  unfold ShBlk; rw [heap_set h.at_]; simp

set_option maxRecDepth 100000 in
set_option maxHeartbeats 1000000 in
theorem rstep_ok (w : World) (B R : Nat) (lv kv ev : Value) (cl : Int) (sv : Value) (st : Drl.PSt) (h : WAt w B R lv kv ev cl sv st) (x : Drl.Dr) (s : ByteArray) (hs : s.data.toList = x.text) :
    Calls Tryz.prog 47 #[.pointer (some ⟨R, 0, none⟩), .int .i64 x.line, .string s, .bool x.want] w fun e w' => RPost w B R lv kv ev cl (Drl.stepD x st) w' ∧ e = .returned (.tuple #[]) := by
  have hl := h.steps
  have c4 : w.cell? ⟨R, 4, none⟩ = some sv := cell_of h.at_ rfl
  have c6 : w.cell? ⟨R, 6, none⟩ = some (.bool st.said) := cell_of h.at_ rfl
  have z6 : w.frozen? ⟨R, 6, none⟩ = false := free_of h.at_ 6
  have c7 : w.cell? ⟨R, 7, none⟩ = some (.int .i64 0) := cell_of h.at_ rfl
  have c8 : w.cell? ⟨R, 8, none⟩ = some (.int .i64 0) := cell_of h.at_ rfl
  have z7 : w.frozen? ⟨R, 7, none⟩ = false := free_of h.at_ 7
  have z8 : w.frozen? ⟨R, 8, none⟩ = false := free_of h.at_ 8
  obtain ⟨ao, cap, rfl⟩ : ∃ ao cap, sv = .slice ao st.steps.length cap := by
    rcases h.row.2 with ⟨hv, h0⟩ | ⟨g, cap, cur, hv, _⟩
    · exact ⟨none, 0, by rw [hv, h0]⟩
    · exact ⟨_, _, hv⟩
  have H := Lib.hid h
  have HS := Lib.hid hs
  clear h hs
  by_cases hw : x.want = true ∧ st.said = false
  · obtain ⟨hw1, hw2⟩ := hw
    have hr : Drl.stepD x st = .error (x.line, 296) := by rw [Drl.stepD, if_pos ⟨hw1, hw2⟩]
    rw [hr, hw1]
    rw [hw2] at c6
    clear hr hw1 hw2
    go_enter Tryz.func47, Tryz.ntmps47
    go_wp2_with fail
    (try simp only [Exit.inBlock, Exit.then])
    refine bodyPost_ret (results_none rfl _ _ _) rfl ?_
    refine ⟨⟨(left_set H.out.base 7 _).trans (left_set H.out.base 8 _), (by dsimp only; omega), cl, .slice ao st.steps.length cap, (st.turns : Int), st.said, ?_⟩, rfl⟩
    unfold ShBlk
    rw [heap_set (heap_set H.out.at_ _) _]
    rfl
  · have hwx : (x.want = false) ∨ (x.want = true ∧ st.said = true) := by
      cases h1 : x.want with
      | false => exact .inl rfl
      | true => cases h2 : st.said with
        | true => exact .inr ⟨rfl, rfl⟩
        | false => exact absurd ⟨h1, h2⟩ hw
    have hw0 : ¬ (x.want = true ∧ st.said = false) := hw
    have HW := Lib.hid hw0
    clear hw hw0
    by_cases h4 : st.steps.length = 4096
    · have e4 : ((st.steps.length : Int) == 4096) = true := by rw [h4]; rfl
      have hr := Lib.hid (show Drl.stepD x st = .error (x.line, 294) by rw [Drl.stepD, if_neg HW.out, if_pos h4])
      clear h4
      rcases hwx with hx | ⟨hx, hsd⟩
      · rw [hx]
        go_enter Tryz.func47, Tryz.ntmps47
        go_wp2_with fail
        (try simp only [Exit.inBlock, Exit.then])
        refine bodyPost_ret (results_none rfl _ _ _) rfl ?_
        rw [hr.out]
        refine ⟨⟨(left_set H.out.base 7 _).trans (left_set H.out.base 8 _), (by dsimp only; omega), cl, .slice ao st.steps.length cap, (st.turns : Int), st.said, ?_⟩, rfl⟩
        unfold ShBlk
        rw [heap_set (heap_set H.out.at_ _) _]
        rfl
      · rw [hx]
        rw [hsd] at c6
        go_enter Tryz.func47, Tryz.ntmps47
        go_wp2_with fail
        (try simp only [Exit.inBlock, Exit.then])
        refine bodyPost_ret (results_none rfl _ _ _) rfl ?_
        rw [hr.out]
        refine ⟨⟨(left_set H.out.base 7 _).trans (left_set H.out.base 8 _), (by dsimp only; omega), cl, .slice ao st.steps.length cap, (st.turns : Int), st.said, ?_⟩, rfl⟩
        unfold ShBlk
        rw [heap_set (heap_set H.out.at_ _) _]
        rfl
    · have e4 : ((st.steps.length : Int) == 4096) = false := by simp; omega
      have hr := Lib.hid (show Drl.stepD x st = .ok { st with steps := st.steps ++ [x], said := true } by rw [Drl.stepD, if_neg HW.out, if_neg h4])
      obtain ⟨g, gc, w1, p1, p2, p3, p4, p5⟩ := H.out.said_.put (by dsimp only; omega) x
      rw [show strV x.text = .string s from strV_eq HS.out] at p1
      dsimp only at p1
      rw [show (w.setCell ⟨R, 6, none⟩ (.bool true)).heap.size = w.heap.size by simp [World.setCell]] at p1
      have P4 := Lib.hid p4
      have P5 := Lib.hid ((left_set H.out.base 6 (.bool true)).trans p5)
      have c4' : ∀ v, (w.setCell ⟨R, 6, none⟩ v).cell? ⟨R, 4, none⟩ = some (.slice ao st.steps.length cap) := fun v => by
        have := heap_set H.out.at_ (i := 6) v
        exact cell_of this rfl
      clear h4 p4 p5
      rcases hwx with hx | ⟨hx, hsd⟩
      · rw [hx] at p1 ⊢
        go_enter Tryz.func47, Tryz.ntmps47
        go_wp2_with (refine wpList_append_at rfl (.tmp 43) (.tmp 48) 22 rfl ?_; refine ⟨_, _, p1, ?_⟩)
        go_end0
        rw [hr.out]
        exact ⟨⟨P5.out, _, P4.out⟩, rfl⟩
      · rw [hx] at p1 ⊢
        rw [hsd] at c6
        go_enter Tryz.func47, Tryz.ntmps47
        go_wp2_with (refine wpList_append_at rfl (.tmp 43) (.tmp 48) 22 rfl ?_; refine ⟨_, _, p1, ?_⟩)
        go_end0
        rw [hr.out]
        exact ⟨⟨P5.out, _, P4.out⟩, rfl⟩
end Go.Proofs.YtfbmlnkgjgnnhaaGreatDoor
