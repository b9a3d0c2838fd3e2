/- The Go law jotterlaw29.DrillTurns returns true at all two numbers and either flag, and its arguments read as they did: a repeat in a repeat is taken just up to the limits of turns and steps, and else the place is that of the line at which one too many came. Conditions: the row's own (the listed variables of Go's library start as the program's text lays them; the tie is given). -/
import Derived.Test.YtfbmlnkgjgnnhaaGreatDoorC1
import Derived.Test.YtfbmlnkgjgnnhaaGreatDoorD2
import Derived.Test.YtfbmlnkgjgnnhaaGreatDoorCards
import Derived.Test.YtfbmlnkgjgnnhaaGreatDoorTie
import Derived.SevenTiedAt
namespace Go.Proofs.YtfbmlnkgjgnnhaaGreatDoor
open Go.ChangeShapes Go.WideShapes Go.ChangeAt Go.RowKit Go.WideMaps Go.WideElems Go.ChangeMaps

set_option maxRecDepth 100000 in
theorem turns_lifted (os : Os) (started : os.Started) (H : Type) (enc : TypeId × Value → H) :
    ReturnsInHanded {} Tryz.checked os 5 .any (fun w args => (Rows.drillTurnsSpec.pre enc Tryz.prog Tryz.f5 [] false w args ∧ laidMetH Tryz.prog laidL w) ∧ sizedMet enc Tryz.prog Tryz.f5 (OpenSpec.ofChange Rows.drillTurnsSpec) false w args)
      (Rows.drillTurnsSpec.post enc Tryz.prog Tryz.f5 false true false false) := by
  refine returns_shaped (C := Tryz.checked) (X := fun w _ => laidMetH Tryz.prog laidL w) (fun _ _ _ hh h => h.of_heap hh) Tryz.own started (by kernel_rfl) Tryz.func5
    (ChangeSpec.witness_shaped (enc := enc) (C := Tryz.checked) (os := os) (X := fun w _ => laidMetH Tryz.prog laidL w) false (startW os) #[.int .i64 0, .int .i64 0, .bool false] 8 (World.layVars_os _ _ _) (World.shaped_of_ZipB (by kernel_rfl) (by kernel_rfl)) (by kernel_rfl) (by kernel_rfl) (by kernel_rfl) (start_met os _)) ?_
  intro W base args ds gs before hval0 hW _ _ hL hsh _
  have hval : ∀ (j : Nat) t v, Tryz.f5.params[j]? = some t → args[j]? = some v → Value.okWide Tryz.prog W .any base t v := hval0
  have hW' := hW
  obtain ⟨p, q, hA0, hV, rfl, hfz, hnd⟩ := hW
  have hA : DataW.TrodAll enc Tryz.prog W 0 (fun _ => true) true Tryz.f5.params.toList args.toList ds p := hA0
  rw [Tryz.params5] at hA hval
  obtain ⟨v0, v1, v2, d0, d1, d2, p0, p1, p2, rfl, rfl, hpp, h0, h1, h2⟩ := trodAll_three hA
  obtain ⟨rfl, rfl⟩ := trodVars_none hV
  obtain ⟨n1, rfl, rfl, rfl, hn1⟩ := open_int Tryz.underlying3 (hval 0 3 v0 rfl rfl) h0
  obtain ⟨n2, rfl, rfl, rfl, hn2⟩ := open_int Tryz.underlying3 (hval 1 3 v1 rfl rfl) h1
  obtain ⟨ln, rfl, rfl, rfl⟩ := open_bool Tryz.underlying4 (hval 2 4 v2 rfl rfl) h2
  obtain rfl : p = [] := hpp
  clear hA0 hval0
  simp only [List.append_nil] at hW'
  refine (turns_walk n1 n2 ln W (env_of_laid hL hsh) (errVar_of_laid hL)).mono fun e W' ⟨he, hb⟩ => ?_
  subst he
  exact ⟨_, rfl, _, _, _, [], [], [], hW', trodAll_mk1 (shut_bool Tryz.underlying4 _), trodAll_mk3 (shut_int Tryz.underlying3 hn1) (shut_int Tryz.underlying3 hn2) (shut_bool Tryz.underlying4 _), rfl, hb.frame _, fun h => by cases h⟩

theorem turns_holds : Rows.DrillTurnsSaid :=
  OpenClaim.holds_of_wide 5 Tryz.f5 rfl rfl rfl rfl rfl rfl rfl ⟨rfl, rfl, rfl, rfl, rfl⟩ rfl rfl rfl rfl rfl (by kernel_rfl) Tryz.func5 (by kernel_rfl)
    (of_decide_eq_true (by kernel_rfl)) (by unfold Func.isWrapper; first | (rw [if_pos (by decide +kernel)]; kernel_rfl) | (rw [if_neg (by decide +kernel)]; exact ⟨rfl, rfl⟩))
    (fun os started H enc _ => turns_lifted os started H enc)

/-- ████ THE STATEMENT ████ -/
theorem turns_card : Rows.DrillTurnsCardSaid :=
  Claim7.holds_tied_plain_at .later [] Rows.drillTurnsCard.laidKinds true Rows.drillTurnsCard.stood.harness true
    turns_holds (fun _ h => by cases h) (by kernel_rfl) (fun _ h => by cases h) drillTurns_row_tie rfl ⟨rfl, rfl⟩ (by kernel_rfl) rfl
    (fun f fn hf hfn => by
      obtain rfl : f = 5 := Option.some.inj ((show Tryz.prog.funcNamed "jotter/jotterlaw29.DrillTurns" = some 5 by kernel_rfl).symm.trans hf) |>.symm
      obtain rfl : fn = Tryz.f5 := (Option.some.inj (Tryz.func5.symm.trans hfn)).symm
      exact ⟨by kernel_rfl, fun j t ht => by
        rw [Tryz.params5] at ht
        have hm : t ∈ [3, 3, 4] := by simpa using Array.mem_of_getElem? ht
        have hall : ([3, 3, 4].all fun u => !Tryz.prog.wantsStandIn u) = true := by kernel_rfl
        exact (show Tryz.prog.wantsStandIn t = false by simpa using List.all_eq_true.1 hall t hm)⟩)
    (by kernel_rfl)
#print axioms turns_card
end Go.Proofs.YtfbmlnkgjgnnhaaGreatDoor
