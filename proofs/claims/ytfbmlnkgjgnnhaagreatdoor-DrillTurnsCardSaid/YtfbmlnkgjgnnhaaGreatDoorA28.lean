import Derived.Test.YtfbmlnkgjgnnhaaGreatDoorA27
namespace Go.Proofs.YtfbmlnkgjgnnhaaGreatDoor
open Go.RowKit

set_option maxRecDepth 100000
set_option maxHeartbeats 2000000

theorem ErrAt.next {w w' : World} {v : Value} {a c : Nat} (h : ErrAt w v a c) (hb : Below w.heap.size w w') : ErrAt w' v a c := by
  obtain ⟨b, h1, h2⟩ := h
  exact ⟨b, h1, below_free hb h2⟩

/-- DrillBounds where there is an error -/
theorem bounds_err (s : ByteArray) (w : World) (hs : s.size ≤ 9223372036854775807) (hE : Env w) (hV : ErrVar w) (k : Nat) (x : Drl.Err) (hr : Drl.unroll k s.data.toList = some (.error x)) :
    Calls Tryz.prog 4 #[.string s] w fun e w' => e = .returned (.bool true) ∧ Below w.heap.size w w' := by
  have hbd := Drl.bounds hr
  simp only [Drl.Bounds, size_len] at hbd
  have HE := Lib.hid hE
  have HV := Lib.hid hV
  have HR := Lib.hid hr
  have HBD := Lib.hid hbd
  clear hE hV hr hbd
  go_enter Tryz.func4, Tryz.ntmps4
  go_wp2_with fail
  refine (drilled_ok w HE.out).mono ?_
  rintro e w1 ⟨rfl, hb1⟩
  have HB1 := Lib.hid hb1
  have HE1 := Lib.hid (HE.out.next hb1)
  clear hb1
  go_wp2_with fail
  refine (unroll_ok k s w1 HE1.out _ HR.out).mono ?_
  rintro e w2 ⟨hb2, v, rfl, herr⟩
  have HB2 := Lib.hid (HB1.out.trans (hb2.mono HB1.out.size))
  have HERR := Lib.hid herr
  obtain ⟨b, rfl, hb⟩ := herr
  have HV2 := Lib.hid (HV.out.next HB2.out)
  clear hb2 hb
  go_wp2_with fail
  refine (code_err _ x.1 x.2 w2 HV2.out HERR.out).mono ?_
  rintro e w3 ⟨rfl, hb3⟩
  have HB3 := Lib.hid (HB2.out.trans (hb3.mono HB2.out.size))
  have HERR3 := Lib.hid (HERR.out.next hb3)
  have HV3 := Lib.hid (HV2.out.next hb3)
  clear hb3
  go_wp2_with fail
  refine (place_err _ x.1 x.2 w3 HV3.out HERR3.out).mono ?_
  rintro e w4 ⟨rfl, hb4⟩
  have HB4 := Lib.hid (HB3.out.trans (hb4.mono HB3.out.size))
  clear hb4
  rcases HBD.out with ⟨h1, h2, h3⟩ | ⟨h1, h2, h3⟩
  · have i1 : 290 ≤ (x.2 : Int) := by omega
    have i2 : (x.2 : Int) ≤ 296 := by omega
    have i3 : 0 ≤ (x.1 : Int) := by omega
    have i4 : (x.1 : Int) ≤ (s.size : Int) := by omega
    generalize (x.2 : Int) = c at i1 i2 ⊢
    generalize (x.1 : Int) = a at i3 i4 ⊢
    have e1 : decide (290 ≤ c) = true := decide_eq_true i1
    have e2 : decide (c ≤ 296) = true := decide_eq_true i2
    have e3 : decide (0 ≤ a) = true := decide_eq_true i3
    have e4 : decide (a ≤ (s.size : Int)) = true := decide_eq_true i4
    clear h1 h2 h3
    go_wp2_with fail
    go_ret
    exact ⟨rfl, HB4.out⟩
  · have i1 : (x.2 : Int) = 150 := by omega
    have i2 : (x.1 : Int) = 65536 := by omega
    have i3 : 65536 < (s.size : Int) := by omega
    generalize (x.2 : Int) = c at i1 ⊢
    generalize (x.1 : Int) = a at i2 ⊢
    subst i1 i2
    have e1 : decide (65536 < (s.size : Int)) = true := decide_eq_true i3
    clear h1 h2 h3
    go_wp2_with fail
    go_ret
    exact ⟨rfl, HB4.out⟩
end Go.Proofs.YtfbmlnkgjgnnhaaGreatDoor
