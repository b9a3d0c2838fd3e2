import Derived.Test.YtfbmlnkgjgnnhaaGreatDoorJE3
import Derived.Test.YtfbmlnkgjgnnhaaGreatDoorJF1
import Derived.Test.YtfbmlnkgjgnnhaaGreatDoorJF2
set_option linter.unusedSimpArgs false
set_option linter.unusedVariables false
namespace Go.Proofs.YtfbmlnkgjgnnhaaGreatDoor
open Go.RowKit

set_option maxRecDepth 100000
set_option maxHeartbeats 2000000

theorem flats_walk (s : ByteArray) (w : World) (hE : Env w) (hV : ErrVar w) :
    Calls Tryz.prog 6 #[.string s] w fun e w' => e = .returned (.bool true) ∧ Below w.heap.size w w' := by
  obtain ⟨k, r, hr⟩ := Drl.unroll_some s.data.toList
  have HE := Lib.hid hE
  have HV := Lib.hid hV
  have HR := Lib.hid hr
  cases r with
  | error x =>
    clear hE hV hr
    go_enter Tryz.func6, Tryz.ntmps6
    go_wp2_with fail
    refine (flat_err k s w HE.out _ HR.out).mono ?_
    rintro e w1 ⟨hb1, v, rfl, herr⟩
    have HB1 := Lib.hid hb1
    have HERR := Lib.hid herr
    obtain ⟨b, rfl, hbk⟩ := herr
    clear hb1 hbk
    go_wp2_with fail
    refine (rflat_err s w1 x (fun W => runroll_ok k s W _ HR.out)).mono ?_
    rintro e w2 ⟨hb2, rfl, hne⟩
    have HB2 := Lib.hid (HB1.out.trans (hb2.mono HB1.out.size))
    have HERR2 := Lib.hid (HERR.out.next hb2)
    have HV2 := Lib.hid (HV.out.next HB2.out)
    have HNE := Lib.hid hne
    clear hb2 hne
    go_wp2_with fail
    refine (wrong_err _ x.1 x.2 w2 HV2.out HERR2.out HNE.out).mono ?_
    rintro e w3 ⟨rfl, hb3⟩
    have HB3 := Lib.hid (HB2.out.trans (hb3.mono HB2.out.size))
    clear hb3
    go_wp2_with fail
    go_ret
    exact ⟨rfl, HB3.out⟩
  | ok a =>
    obtain ⟨l, n⟩ := a
    have hbd := Drl.bounds hr
    simp only [Drl.Bounds] at hbd
    obtain ⟨q1, q2, q3, q4, q5, _⟩ := hbd
    have HX := Lib.hid (fun x hx => (q5 x hx).len)
    clear hE hV hr q4 q5
    go_enter Tryz.func6, Tryz.ntmps6
    go_wp2_with fail
    refine (flat_fine k s w HE.out l n HR.out).mono ?_
    rintro e w1 ⟨hb1, rfl⟩
    have HB1 := Lib.hid hb1
    obtain ⟨ft, hft⟩ : ∃ ft : ByteArray, ft = ⟨(Drl.flatText l n).toArray⟩ := ⟨_, rfl⟩
    dsimp only
    rw [← hft]
    have HFT := Lib.hid hft
    clear hb1 hft
    go_wp2_with fail
    refine (rflat_fine s w1 l n q1 q3 HX.out (fun W => runroll_ok k s W _ HR.out)).mono ?_
    rintro e w2 ⟨hb2, rfl⟩
    dsimp only
    rw [← HFT.out]
    have HB2 := Lib.hid (HB1.out.trans (hb2.mono HB1.out.size))
    clear hb2
    go_wp2_with fail
    refine (wrong_nil 0 w2).mono ?_
    rintro e w' ⟨rfl, rfl⟩
    have en : (ft.toList == ft.toList) = true := by simp
    go_wp2_with fail
    go_ret
    exact ⟨rfl, HB2.out⟩
end Go.Proofs.YtfbmlnkgjgnnhaaGreatDoor
