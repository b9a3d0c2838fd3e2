import Derived.Test.YtfbmlnkgjgnnhaaGreatDoorJE1
import Derived.Test.YtfbmlnkgjgnnhaaGreatDoorJR16
set_option linter.unusedSimpArgs false
set_option linter.unusedVariables false
namespace Go.Proofs.YtfbmlnkgjgnnhaaGreatDoor
open Go.RowKit

set_option maxRecDepth 100000
set_option maxHeartbeats 2000000

theorem StepsV.next {w w' : World} {v : Value} {l : List Drl.Dr} (h : StepsV w v l) (hb : Below w.heap.size w w') : StepsV w' v l := by
  obtain ⟨ao, cap, h1, h2⟩ := h
  refine ⟨ao, cap, h1, fun hn => ?_⟩
  obtain ⟨g, h3, h4, h5⟩ := h2 hn
  exact ⟨g, h3, h4, fun i x hx => ⟨below_cell hb (h5 i x hx).c0, below_cell hb (h5 i x hx).c1, below_cell hb (h5 i x hx).c2⟩⟩

theorem unrolls_walk (s : ByteArray) (w : World) (hE : Env w) (hV : ErrVar w) :
    Calls Tryz.prog 3 #[.string s] w fun e w' => e = .returned (.bool true) ∧ Below w.heap.size w w' := by
  obtain ⟨k, r, hr⟩ := Drl.unroll_some s.data.toList
  have HE := Lib.hid hE
  have HV := Lib.hid hV
  have HR := Lib.hid hr
  cases r with
  | error x =>
    clear hE hV hr
    go_enter Tryz.func3, Tryz.ntmps3
    go_wp2_with fail
    refine (unroll_ok k s w HE.out _ HR.out).mono ?_
    rintro e w1 ⟨hb1, v, rfl, herr⟩
    have HB1 := Lib.hid hb1
    have HERR := Lib.hid herr
    obtain ⟨b, rfl, hbk⟩ := herr
    clear hb1 hbk
    go_wp2_with fail
    refine (runroll_ok k s w1 _ HR.out).mono ?_
    rintro e w2 ⟨hb2, rfl, hne⟩
    have HB2 := Lib.hid (HB1.out.trans (hb2.mono HB1.out.size))
    have HERR2 := Lib.hid (HERR.out.next hb2)
    have HV2 := Lib.hid (HV.out.next HB2.out)
    have HNE := Lib.hid hne
    clear hb2 hne
    go_wp2_with fail
    refine (wrong_err _ x.1 x.2 w2 HV2.out HERR2.out HNE.out).mono ?_
    rintro e w3 ⟨rfl, hb3⟩
    have HB3 := Lib.hid (HB2.out.trans (hb3.mono HB2.out.size))
    clear hb3
    go_wp2_with fail
    refine (sameSteps_ok _ _ [] w3 (StepsV.nil _) (StepsV.nil _) (Nat.zero_le _)).mono ?_
    rintro e w4 ⟨rfl, hb4⟩
    have HB4 := Lib.hid (HB3.out.trans (hb4.mono HB3.out.size))
    clear hb4
    go_wp2_with fail
    go_ret
    exact ⟨rfl, HB4.out⟩
  | ok a =>
    obtain ⟨l, n⟩ := a
    have hbd := Drl.bounds hr
    simp only [Drl.Bounds] at hbd
    have hl : l.length ≤ 4096 := hbd.1
    clear hE hV hr hbd
    go_enter Tryz.func3, Tryz.ntmps3
    go_wp2_with fail
    refine (unroll_ok k s w HE.out _ HR.out).mono ?_
    rintro e w1 ⟨hb1, sv, rfl, hown⟩
    have HB1 := Lib.hid hb1
    have HS1 := Lib.hid (StepsOwn.view hown)
    clear hb1 hown
    go_wp2_with fail
    refine (runroll_ok k s w1 _ HR.out).mono ?_
    rintro e w2 ⟨hb2, sv2, rfl, hown2⟩
    have HB2 := Lib.hid (HB1.out.trans (hb2.mono HB1.out.size))
    have HS12 := Lib.hid (HS1.out.next hb2)
    have HS2 := Lib.hid (StepsOwn.view hown2)
    clear hb2 hown2
    go_wp2_with fail
    refine (wrong_nil 0 w2).mono ?_
    rintro e w' ⟨rfl, rfl⟩
    go_wp2_with fail
    refine (sameSteps_ok _ _ l w2 HS12.out HS2.out hl).mono ?_
    rintro e w4 ⟨rfl, hb4⟩
    have HB4 := Lib.hid (HB2.out.trans (hb4.mono HB2.out.size))
    have en : ((n : Int) == (n : Int)) = true := by simp
    clear hb4
    go_wp2_with fail
    go_ret
    exact ⟨rfl, HB4.out⟩
end Go.Proofs.YtfbmlnkgjgnnhaaGreatDoor
