/- The Go law jotterlaw29.DrillBounds returns true at every text, and its argument reads as it did: whatever the drill, no more steps than may be, each of a line of the text, none empty, none that wants first; each error of the layer's at a line. Conditions: the row's own (the listed variables of Go's library start as the program's text lays them; the tie is given). -/
import Derived.Test.YtfbmlnkgjgnnhaaGreatDoorC1
import Derived.Test.YtfbmlnkgjgnnhaaGreatDoorA29
import Derived.Test.YtfbmlnkgjgnnhaaGreatDoorCards
import Derived.Test.YtfbmlnkgjgnnhaaGreatDoorTie
import Derived.SevenTiedAt
namespace Go.Proofs.YtfbmlnkgjgnnhaaGreatDoor
open Go.ChangeShapes Go.WideShapes Go.ChangeAt Go.RowKit Go.WideMaps Go.WideElems Go.ChangeMaps

theorem bounds_walk (s : ByteArray) (w : World) (hs : s.size ≤ 9223372036854775807) (hE : Env w) (hV : ErrVar w) :
    Calls Tryz.prog 4 #[.string s] w fun e w' => e = .returned (.bool true) ∧ Below w.heap.size w w' := by
  obtain ⟨k, r, hr⟩ := Drl.unroll_some s.data.toList
  cases r with
  | error x => exact bounds_err s w hs hE hV k x hr
  | ok a => exact bounds_fine s w hs hE k a hr

set_option maxRecDepth 100000 in
theorem bounds_lifted (os : Os) (started : os.Started) (H : Type) (enc : TypeId × Value → H) :
    ReturnsInHanded {} Tryz.checked os 4 .any (fun w args => (Rows.drillBoundsSpec.pre enc Tryz.prog Tryz.f4 [] false w args ∧ laidMetH Tryz.prog laidL w) ∧ sizedMet enc Tryz.prog Tryz.f4 (OpenSpec.ofChange Rows.drillBoundsSpec) false w args)
      (Rows.drillBoundsSpec.post enc Tryz.prog Tryz.f4 false true false false) := by
  refine returns_shaped (C := Tryz.checked) (X := fun w _ => laidMetH Tryz.prog laidL w) (fun _ _ _ hh h => h.of_heap hh) Tryz.own started (by kernel_rfl) Tryz.func4
    (ChangeSpec.witness_shaped (enc := enc) (C := Tryz.checked) (os := os) (X := fun w _ => laidMetH Tryz.prog laidL w) false (startW os) #[.string ⟨#[]⟩] 8 (World.layVars_os _ _ _) (World.shaped_of_ZipB (by kernel_rfl) (by kernel_rfl)) (by kernel_rfl) (by kernel_rfl) (by kernel_rfl) (start_met os _)) ?_
  intro W base args ds gs before hval0 hW _ _ hL hsh _
  have hval : ∀ (j : Nat) t v, Tryz.f4.params[j]? = some t → args[j]? = some v → Value.okWide Tryz.prog W .any base t v := hval0
  have hW' := hW
  obtain ⟨p, q, hA0, hV, rfl, hfz, hnd⟩ := hW
  have hA : DataW.TrodAll enc Tryz.prog W 0 (fun _ => true) true Tryz.f4.params.toList args.toList ds p := hA0
  rw [Tryz.params4] at hA hval
  obtain ⟨v0, d0, rfl, rfl, h0⟩ := trodAll_one hA
  obtain ⟨rfl, rfl⟩ := trodVars_none hV
  obtain ⟨s, rfl, rfl, rfl, hs⟩ := open_string Tryz.underlying9 (hval 0 9 v0 rfl rfl) h0
  have hs9 : s.size ≤ 9223372036854775807 := by unfold maxLen at hs; omega
  clear hA0 hval0
  simp only [List.append_nil] at hW'
  refine (bounds_walk s W hs9 (env_of_laid hL hsh) (errVar_of_laid hL)).mono fun e W' ⟨he, hb⟩ => ?_
  subst he
  exact ⟨_, rfl, _, _, _, [], [], [], hW', trodAll_mk1 (shut_bool Tryz.underlying4 _), trodAll_mk1 (shut_string Tryz.underlying9 hs), rfl, hb.frame _, fun h => by cases h⟩

theorem bounds_holds : Rows.DrillBoundsSaid :=
  OpenClaim.holds_of_wide 4 Tryz.f4 rfl rfl rfl rfl rfl rfl rfl ⟨rfl, rfl, rfl, rfl, rfl⟩ rfl rfl rfl rfl rfl (by kernel_rfl) Tryz.func4 (by kernel_rfl)
    (of_decide_eq_true (by kernel_rfl)) (by unfold Func.isWrapper; first | (rw [if_pos (by decide +kernel)]; kernel_rfl) | (rw [if_neg (by decide +kernel)]; exact ⟨rfl, rfl⟩))
    (fun os started H enc _ => bounds_lifted os started H enc)

/-- ████ THE STATEMENT ████ -/
theorem bounds_card : Rows.DrillBoundsCardSaid :=
  Claim7.holds_tied_plain_at .later [] Rows.drillBoundsCard.laidKinds true Rows.drillBoundsCard.stood.harness true
    bounds_holds (fun _ h => by cases h) (by kernel_rfl) (fun _ h => by cases h) drillBounds_row_tie rfl ⟨rfl, rfl⟩ (by kernel_rfl) rfl
    (fun f fn hf hfn => by
      obtain rfl : f = 4 := Option.some.inj ((show Tryz.prog.funcNamed "jotter/jotterlaw29.DrillBounds" = some 4 by kernel_rfl).symm.trans hf) |>.symm
      obtain rfl : fn = Tryz.f4 := (Option.some.inj (Tryz.func4.symm.trans hfn)).symm
      exact ⟨by kernel_rfl, fun j t ht => by
        rw [Tryz.params4] at ht
        have hm : t ∈ [9] := by simpa using Array.mem_of_getElem? ht
        have hall : ([9].all fun u => !Tryz.prog.wantsStandIn u) = true := by kernel_rfl
        exact (show Tryz.prog.wantsStandIn t = false by simpa using List.all_eq_true.1 hall t hm)⟩)
    (by kernel_rfl)
#print axioms bounds_card
end Go.Proofs.YtfbmlnkgjgnnhaaGreatDoor
