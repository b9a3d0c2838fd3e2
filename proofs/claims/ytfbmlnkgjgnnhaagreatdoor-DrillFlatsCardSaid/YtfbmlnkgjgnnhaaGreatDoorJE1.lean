import Derived.Test.YtfbmlnkgjgnnhaaGreatDoorJA27
set_option linter.unusedSimpArgs false
set_option linter.unusedVariables false
namespace Go.Proofs.YtfbmlnkgjgnnhaaGreatDoor
open Go.RowKit

set_option maxRecDepth 100000
set_option maxHeartbeats 2000000

/-- wrong(nil, 0, at) -/
theorem wrong_nil (a : Int) (w : World) : Calls Tryz.prog 9 #[.nilIface, .int .i64 0, .int .i64 a] w fun e w' => e = .returned (.bool true) ∧ w = w' := by
  go_enter Tryz.func9, Tryz.ntmps9
  go_wp2_with fail
  go_ret
  exact ⟨rfl, rfl⟩
theorem wrong_err (v : Value) (a c : Nat) (w : World) (hV : ErrVar w) (h : ErrAt w v a c) (hc : c ≠ 0) : Calls Tryz.prog 9 #[v, .int .i64 c, .int .i64 a] w fun e w' => e = .returned (.bool true) ∧ Below w.heap.size w w' := by
  have HV := Lib.hid hV
  have HERR := Lib.hid h
  obtain ⟨b, rfl, hb⟩ := h
  have ec : ((c : Int) == 0) = false := by simp; omega
  have e1 : ((c : Int) == (c : Int)) = true := by simp
  have e2 : ((a : Int) == (a : Int)) = true := by simp
  clear hV hb
  go_enter Tryz.func9, Tryz.ntmps9
  go_wp2_with fail
  refine (code_err _ a c w HV.out HERR.out).mono ?_
  rintro e w1 ⟨rfl, hb1⟩
  have HB1 := Lib.hid hb1
  have HE1 := Lib.hid (HERR.out.next hb1)
  have HV1 := Lib.hid (HV.out.next hb1)
  clear hb1
  go_wp2_with fail
  refine (place_err _ a c w1 HV1.out HE1.out).mono ?_
  rintro e w2 ⟨rfl, hb2⟩
  have HB2 := Lib.hid (HB1.out.trans (hb2.mono HB1.out.size))
  clear hb2
  go_wp2_with fail
  go_ret
  exact ⟨rfl, HB2.out⟩

/-- a slice of steps as the law reads it -/
def StepsV (w : World) (v : Value) (l : List Drl.Dr) : Prop := ∃ ao cap, v = .slice ao l.length cap ∧ (l ≠ [] → ∃ g, ao = some ⟨g, 0, none⟩ ∧ l.length ≤ cap ∧ StepsIn w g l)
theorem StepsOwn.view {w : World} {B : Nat} {v : Value} {l : List Drl.Dr} (h : StepsOwn w B v l) : StepsV w v l := by
  rcases h.at_ with ⟨rfl, rfl⟩ | ⟨g, cap, rfl, q1, _, _, q2⟩
  · exact ⟨none, 0, rfl, fun h => absurd rfl h⟩
  · exact ⟨some ⟨g, 0, none⟩, cap, rfl, fun _ => ⟨g, rfl, q1, q2⟩⟩
theorem StepsV.nil (w : World) : StepsV w (.slice none 0 0) [] := ⟨none, 0, rfl, fun h => absurd rfl h⟩

theorem sameSteps_ok (v v' : Value) (l : List Drl.Dr) (w : World) (h : StepsV w v l) (h' : StepsV w v' l) (hl : l.length ≤ 4096) :
    Calls Tryz.prog 10 #[v, v'] w fun e w' => e = .returned (.bool true) ∧ Below w.heap.size w w' := by
  obtain ⟨ao, cap, rfl, hc⟩ := h
  obtain ⟨ao', cap', rfl, hc'⟩ := h'
  have HC := Lib.hid hc
  have HC' := Lib.hid hc'
  clear hc hc'
  have e0 : ((l.length : Int) != (l.length : Int)) = false := by simp
  go_enter Tryz.func10, Tryz.ntmps10
  go_wp2_with fail
  go_loopw [5] (fun i wr => ∃ m : Nat, m ≤ l.length ∧ i = .int .i64 m ∧ Below w.heap.size w wr) (fun i _ => l.length - (intOf i).toNat)
  case atStart => exact ⟨0, Nat.zero_le _, rfl, Below.refl _ _⟩
  case round =>
    obtain ⟨m, hm, rfl, hb⟩ := hrel
    have HB := Lib.hid hb
    clear hb
    by_cases hml : m < l.length
    · obtain ⟨g, rfl, hcap, hin⟩ := HC.out (by rintro rfl; simp at hml)
      obtain ⟨g', rfl, hcap', hin'⟩ := HC'.out (by rintro rfl; simp at hml)
      obtain ⟨x, hx⟩ : ∃ x, l[m]? = some x := ⟨l[m], List.getElem?_eq_getElem hml⟩
      have d := hin m x hx
      have d' := hin' m x hx
      have hbc : ∀ {a : Addr} {u : Value}, w.cell? a = some u → wr.cell? a = some u := fun h => below_cell HB.out h
      have c0 := hbc d.c0
      have c1 := hbc d.c1
      have c2 := hbc d.c2
      have k0 := hbc d'.c0
      have k1 := hbc d'.c1
      have k2 := hbc d'.c2
      obtain ⟨t, ht⟩ : ∃ t : ByteArray, strV x.text = .string t := ⟨_, rfl⟩
      rw [ht] at c1 k1
      obtain ⟨n, hn⟩ : ∃ n : Int, (x.line : Int) = n := ⟨_, rfl⟩
      obtain ⟨bw, hbw⟩ : ∃ bw, x.want = bw := ⟨_, rfl⟩
      rw [hn] at c0 k0
      rw [hbw] at c2 k2
      have l3 : (m : Int) < (l.length : Int) := by omega
      clear d d' hin hin' hx hbc ht hn hbw
      go_wp2_with fail
      go_quiet (fail)
      go_wp2_with fail
      go_roundw
      case rel => exact ⟨m + 1, by omega, by go_num, below_dN HB.out _⟩
      case measure => simp [intOf]; omega
    · go_wp2_with fail
      go_ret
      exact ⟨rfl, HB.out⟩
end Go.Proofs.YtfbmlnkgjgnnhaaGreatDoor
