import Derived.Test.YtfbmlnkgjgnnhaaGreatDoorJA25
set_option linter.unusedSimpArgs false
set_option linter.unusedVariables false
namespace Go.Proofs.YtfbmlnkgjgnnhaaGreatDoor
open Go.RowKit

set_option maxRecDepth 100000
set_option maxHeartbeats 2000000

/-- what an error of the layer's reads as -/
theorem code_err (v : Value) (a c : Nat) (w : World) (hE : ErrVar w) (h : ErrAt w v a c) : Calls Tryz.prog 12 #[v] w fun e w' => e = .returned (.int .i64 c) ∧ Below w.heap.size w w' := by
  obtain ⟨b, rfl, hF⟩ := h
  have hE' : ErrVar (w.alloc (.cells #[.int .i64 0] 33)) := cell_old hE
  have hF' := heap_old (o := .cells #[.int .i64 0] 33) hF
  have hn : (w.alloc (.cells #[.int .i64 0] 33)).heap[w.heap.size]? = some (.cells #[.int .i64 0] 33 (0, 0)) := heap_new w _
  have HE := Lib.hid hE'
  have HF := Lib.hid hF'
  have HN := Lib.hid hn
  clear hE hE' hF' hn hF
  go_enter Tryz.func12, Tryz.ntmps12
  go_wp2_with fail
  refine (as_errno2 b w.heap.size ⟨w.heap.size, 0, none⟩ (.int .i64 0) a c _ HE.out HF.out (cell_one HN.out) (free_of HN.out 0) (Nat.le_refl _)).mono ?_
  rintro e w' ⟨rfl, hc, hb⟩
  have HB := Lib.hid (((Below.refl w.heap.size w).alloc (Nat.le_refl _) (.cells #[.int .i64 0] 33)).trans hb)
  clear hb
  go_wp2_with fail
  go_ret
  exact ⟨rfl, HB.out⟩
theorem code_nil (w : World) : Calls Tryz.prog 12 #[.nilIface] w fun e w' => e = .returned (.int .i64 0) ∧ Below w.heap.size w w' := by
  go_enter Tryz.func12, Tryz.ntmps12
  go_wp2_with fail
  go_ret
  exact ⟨rfl, (Below.refl _ _).alloc (Nat.le_refl _) _⟩
theorem place_err (v : Value) (a c : Nat) (w : World) (hE : ErrVar w) (h : ErrAt w v a c) : Calls Tryz.prog 13 #[v] w fun e w' => e = .returned (.int .i64 a) ∧ Below w.heap.size w w' := by
  obtain ⟨b, rfl, hF⟩ := h
  have hE' : ErrVar (w.alloc (.cells #[.pointer none] 76)) := cell_old hE
  have hF' := heap_old (o := .cells #[.pointer none] 76) hF
  have hn : (w.alloc (.cells #[.pointer none] 76)).heap[w.heap.size]? = some (.cells #[.pointer none] 76 (0, 0)) := heap_new w _
  have hb0 : b < w.heap.size := lt_of hF
  have HE := Lib.hid hE'
  have HF := Lib.hid hF'
  have HN := Lib.hid hn
  clear hE hE' hF' hn hF
  go_enter Tryz.func13, Tryz.ntmps13
  go_wp2_with fail
  refine (as_fault2 b w.heap.size ⟨w.heap.size, 0, none⟩ (.pointer none) a c _ HE.out HF.out (cell_one HN.out) (free_of HN.out 0) (Nat.le_refl _)).mono ?_
  rintro e w' ⟨rfl, hc, hb⟩
  have hf0 : w'.cell? ⟨b, 0, none⟩ = some (.int .i64 a) := (hb.cell (p := ⟨b, 0, none⟩) hb0).trans (cell_of HF.out rfl)
  have HB := Lib.hid (((Below.refl w.heap.size w).alloc (Nat.le_refl _) (.cells #[.pointer none] 76)).trans hb)
  clear hb
  go_wp2_with fail
  go_ret
  exact ⟨rfl, HB.out⟩
end Go.Proofs.YtfbmlnkgjgnnhaaGreatDoor
