import Derived.Test.YtfbmlnkgjgnnhaaGreatDoorJA24
import Derived.Test.YtfbmlnkgjgnnhaaGreatDoorJA26
import Derived.Test.YtfbmlnkgjgnnhaaGreatDoorJP17
set_option linter.unusedSimpArgs false
set_option linter.unusedVariables false

section
namespace Go.Proofs.YtfbmlnkgjgnnhaaGreatDoor
open Go.RowKit

set_option maxRecDepth 100000
set_option maxHeartbeats 2000000

/-- a step in memory -/
structure DrAt (w : World) (g o : Nat) (x : Drl.Dr) : Prop where
  c0 : w.cell? ⟨g, o, none⟩ = some (.int .i64 x.line)
  c1 : w.cell? ⟨g, o + 1, none⟩ = some (strV x.text)
  c2 : w.cell? ⟨g, o + 2, none⟩ = some (.bool x.want)
def StepsIn (w : World) (g : Nat) (l : List Drl.Dr) : Prop := ∀ i x, l[i]? = some x → DrAt w g (i * 3) x

theorem stepCells_get : ∀ (l : List Drl.Dr) (i : Nat) (x : Drl.Dr), l[i]? = some x → (stepCells l)[i * 3]? = some (.int .i64 x.line) ∧ (stepCells l)[i * 3 + 1]? = some (strV x.text) ∧ (stepCells l)[i * 3 + 2]? = some (.bool x.want)
  | [], i, x, h => by simp at h
  | y :: l, 0, x, h => by simp at h; subst h; exact ⟨rfl, rfl, rfl⟩
  | y :: l, i + 1, x, h => by
    have := stepCells_get l i x (by simpa using h)
    have e : stepCells (y :: l) = .int .i64 y.line :: strV y.text :: .bool y.want :: stepCells l := rfl
    rw [e, show (i + 1) * 3 = i * 3 + 3 by omega, show i * 3 + 3 + 1 = i * 3 + 1 + 3 by omega, show i * 3 + 3 + 2 = i * 3 + 2 + 3 by omega]
    simpa using this
/-- what Unroll hands out, in memory -/
def StepsOwn (w : World) (B : Nat) (v : Value) (l : List Drl.Dr) : Prop := w.ownsRow B 37 3 v l.length (stepCells l)
theorem StepsOwn.at_ {w : World} {B : Nat} {v : Value} {l : List Drl.Dr} (h : StepsOwn w B v l) : (v = .slice none 0 0 ∧ l = []) ∨ ∃ g cap, v = .slice (some ⟨g, 0, none⟩) l.length cap ∧ l.length ≤ cap ∧ g < w.heap.size ∧ B ≤ g ∧ StepsIn w g l := by
  rcases h.2 with ⟨hv, h0⟩ | ⟨g, cap, cur, hv, hb, hh, hn, _, _, _⟩
  · exact .inl ⟨hv, List.eq_nil_of_length_eq_zero h0⟩
  · have hc : ∀ (j : Nat) (u : Value), (stepCells l)[j]? = some u → w.cell? ⟨g, j, none⟩ = some u := by
      intro j u hj
      have := World.ownsRow.cells h (g := g) (by rw [hv]; rfl) j u hj
      have hadd : (⟨g, 0, none⟩ : Addr).add j = ⟨g, j, none⟩ := by unfold Addr.add; split <;> simp_all
      rw [hadd] at this
      exact this
    refine .inr ⟨g, cap, hv, hn, lt_of hh, hb, fun i x hx => ?_⟩
    obtain ⟨h0, h1, h2⟩ := stepCells_get l i x hx
    exact ⟨hc _ _ h0, hc _ _ h1, hc _ _ h2⟩
theorem StepsOwn.next {w w' : World} {B : Nat} {v : Value} {l : List Drl.Dr} (h : StepsOwn w B v l) (hb : Below w.heap.size w w') : StepsOwn w' B v l :=
  ownsRow_keep h (.of_next (S := fun _ => False) (es := fun _ => False) hb) (fun _ _ _ _ => id) id

theorem drilled_ok (w : World) (hE : Env w) : Calls Tryz.prog 11 #[] w fun e w' => e = .returned (.bool true) ∧ Below w.heap.size w w' := by
  have HE := Lib.hid hE
  clear hE
  go_enter Tryz.func11, Tryz.ntmps11
  go_wp2_with fail
  refine (unroll_ok 40 _ w HE.out (.ok (Drl.smallL, 2)) Drl.small_answer).mono ?_
  rintro e w1 ⟨hb, sv, rfl, hown⟩
  obtain ⟨g, cap, rfl, hcap, hg, _, hin⟩ : ∃ g cap, sv = .slice (some ⟨g, 0, none⟩) 8 cap ∧ 8 ≤ cap ∧ g < w1.heap.size ∧ w.heap.size ≤ g ∧ StepsIn w1 g Drl.smallL := by
    rcases StepsOwn.at_ hown with ⟨_, h⟩ | h
    · cases h
    · exact h
  have d0 := hin 0 _ rfl
  have d1 := hin 1 _ rfl
  have d2 := hin 2 _ rfl
  have d7 := hin 7 _ rfl
  have a0 : w1.cell? ⟨g, 0, none⟩ = some (.int .i64 9) := d0.c0
  have a1 : w1.cell? ⟨g, 1, none⟩ = some (.string ⟨#[116, 121, 112, 101, 32, 49, 32, 120, 49]⟩) := d0.c1
  have a2 : w1.cell? ⟨g, 2, none⟩ = some (.bool false) := d0.c2
  have b0 : w1.cell? ⟨g, 3, none⟩ = some (.int .i64 10) := d1.c0
  have b1 : w1.cell? ⟨g, 4, none⟩ = some (.string ⟨#[111, 107, 32, 50]⟩) := d1.c1
  have b2 : w1.cell? ⟨g, 5, none⟩ = some (.bool true) := d1.c2
  have c1 : w1.cell? ⟨g, 7, none⟩ = some (.string ⟨#[116, 121, 112, 101, 32, 50, 32, 120, 50]⟩) := d2.c1
  have e0 : w1.cell? ⟨g, 21, none⟩ = some (.int .i64 5) := d7.c0
  have e1 : w1.cell? ⟨g, 22, none⟩ = some (.string ⟨#[97, 108, 108]⟩) := d7.c1
  have e2 : w1.cell? ⟨g, 23, none⟩ = some (.bool false) := d7.c2
  have HB := Lib.hid hb
  clear hb d0 d1 d2 d7 hin hown
  go_wp2_with fail
  go_ret
  exact ⟨rfl, HB.out⟩
end Go.Proofs.YtfbmlnkgjgnnhaaGreatDoor
end

section
namespace Go.Proofs.YtfbmlnkgjgnnhaaGreatDoor
open Go.RowKit

set_option maxRecDepth 100000
set_option maxHeartbeats 2000000

theorem ErrAt.next {w w' : World} {v : Value} {a c : Nat} (h : ErrAt w v a c) (hb : Below w.heap.size w w') : ErrAt w' v a c := by
  obtain ⟨b, h1, h2⟩ := h
  exact ⟨b, h1, below_free hb h2⟩

/-- DrillBounds where there is an error -/
theorem bounds_err (s : ByteArray) (w : World) (hs : s.size ≤ 9223372036854775807) (hE : Env w) (hV : ErrVar w) (k : Nat) (x : Drl.Err) (hr : Drl.unroll k s.data.toList = some (.error x)) :
    Calls Tryz.prog 4 #[.string s] w fun e w' => e = .returned (.bool true) ∧ Below w.heap.size w w' := by
  have hbd := Drl.bounds hr
  simp only [Drl.Bounds, size_len] at hbd
  have HE := Lib.hid hE
  have HV := Lib.hid hV
  have HR := Lib.hid hr
  have HBD := Lib.hid hbd
  clear hE hV hr hbd
  go_enter Tryz.func4, Tryz.ntmps4
  go_wp2_with fail
  refine (drilled_ok w HE.out).mono ?_
  rintro e w1 ⟨rfl, hb1⟩
  have HB1 := Lib.hid hb1
  have HE1 := Lib.hid (HE.out.next hb1)
  clear hb1
  go_wp2_with fail
  refine (unroll_ok k s w1 HE1.out _ HR.out).mono ?_
  rintro e w2 ⟨hb2, v, rfl, herr⟩
  have HB2 := Lib.hid (HB1.out.trans (hb2.mono HB1.out.size))
  have HERR := Lib.hid herr
  obtain ⟨b, rfl, hb⟩ := herr
  have HV2 := Lib.hid (HV.out.next HB2.out)
  clear hb2 hb
  go_wp2_with fail
  refine (code_err _ x.1 x.2 w2 HV2.out HERR.out).mono ?_
  rintro e w3 ⟨rfl, hb3⟩
  have HB3 := Lib.hid (HB2.out.trans (hb3.mono HB2.out.size))
  have HERR3 := Lib.hid (HERR.out.next hb3)
  have HV3 := Lib.hid (HV2.out.next hb3)
  clear hb3
  go_wp2_with fail
  refine (place_err _ x.1 x.2 w3 HV3.out HERR3.out).mono ?_
  rintro e w4 ⟨rfl, hb4⟩
  have HB4 := Lib.hid (HB3.out.trans (hb4.mono HB3.out.size))
  clear hb4
  rcases HBD.out with ⟨h1, h2, h3⟩ | ⟨h1, h2, h3⟩
  · have i1 : 290 ≤ (x.2 : Int) := by omega
    have i2 : (x.2 : Int) ≤ 296 := by omega
    have i3 : 0 ≤ (x.1 : Int) := by omega
    have i4 : (x.1 : Int) ≤ (s.size : Int) := by omega
    generalize (x.2 : Int) = c at i1 i2 ⊢
    generalize (x.1 : Int) = a at i3 i4 ⊢
    have e1 : decide (290 ≤ c) = true := decide_eq_true i1
    have e2 : decide (c ≤ 296) = true := decide_eq_true i2
    have e3 : decide (0 ≤ a) = true := decide_eq_true i3
    have e4 : decide (a ≤ (s.size : Int)) = true := decide_eq_true i4
    clear h1 h2 h3
    go_wp2_with fail
    go_ret
    exact ⟨rfl, HB4.out⟩
  · have i1 : (x.2 : Int) = 150 := by omega
    have i2 : (x.1 : Int) = 65536 := by omega
    have i3 : 65536 < (s.size : Int) := by omega
    generalize (x.2 : Int) = c at i1 ⊢
    generalize (x.1 : Int) = a at i2 ⊢
    subst i1 i2
    have e1 : decide (65536 < (s.size : Int)) = true := decide_eq_true i3
    clear h1 h2 h3
    go_wp2_with fail
    go_ret
    exact ⟨rfl, HB4.out⟩
end Go.Proofs.YtfbmlnkgjgnnhaaGreatDoor
end

section
namespace Go.Proofs.YtfbmlnkgjgnnhaaGreatDoor
open Go.RowKit

/-- what the reference's Unroll leaves -/
def RUnrollPost (w : World) (r : Except Drl.Err (List Drl.Dr × Nat)) (e : Ending) (w' : World) : Prop :=
  Below w.heap.size w w' ∧ match r with
    | .error x => e = .returned (.tuple #[.slice none 0 0, .int .i64 0, .int .i64 (x.2 : Nat), .int .i64 (x.1 : Nat)]) ∧ x.2 ≠ 0
    | .ok a => ∃ sv, e = .returned (.tuple #[sv, .int .i64 a.2, .int .i64 0, .int .i64 0]) ∧ StepsOwn w' w.heap.size sv a.1
end Go.Proofs.YtfbmlnkgjgnnhaaGreatDoor
end
