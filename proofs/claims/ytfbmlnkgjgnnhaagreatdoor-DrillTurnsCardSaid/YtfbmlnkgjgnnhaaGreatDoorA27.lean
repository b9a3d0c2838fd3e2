import Derived.Test.YtfbmlnkgjgnnhaaGreatDoorA24
import Derived.Test.YtfbmlnkgjgnnhaaGreatDoorA26
import Derived.Test.YtfbmlnkgjgnnhaaGreatDoorP20
namespace Go.Proofs.YtfbmlnkgjgnnhaaGreatDoor
open Go.RowKit

set_option maxRecDepth 100000
set_option maxHeartbeats 2000000

/-- a step in memory -/
structure DrAt (w : World) (g o : Nat) (x : Drl.Dr) : Prop where
  c0 : w.cell? ⟨g, o, none⟩ = some (.int .i64 x.line)
  c1 : w.cell? ⟨g, o + 1, none⟩ = some (strV x.text)
  c2 : w.cell? ⟨g, o + 2, none⟩ = some (.bool x.want)
def StepsIn (w : World) (g : Nat) (l : List Drl.Dr) : Prop := ∀ i x, l[i]? = some x → DrAt w g (i * 3) x

theorem stepCells_get : ∀ (l : List Drl.Dr) (i : Nat) (x : Drl.Dr), l[i]? = some x → (stepCells l)[i * 3]? = some (.int .i64 x.line) ∧ (stepCells l)[i * 3 + 1]? = some (strV x.text) ∧ (stepCells l)[i * 3 + 2]? = some (.bool x.want)
  | [], i, x, h => by simp at h
  | y :: l, 0, x, h => by simp at h; subst h; exact ⟨rfl, rfl, rfl⟩
  | y :: l, i + 1, x, h => by
    have := stepCells_get l i x (by simpa using h)
    have e : stepCells (y :: l) = .int .i64 y.line :: strV y.text :: .bool y.want :: stepCells l := rfl
    rw [e, show (i + 1) * 3 = i * 3 + 3 by omega, show i * 3 + 3 + 1 = i * 3 + 1 + 3 by omega, show i * 3 + 3 + 2 = i * 3 + 2 + 3 by omega]
    simpa using this
/-- what Unroll hands out, in memory -/
def StepsOwn (w : World) (B : Nat) (v : Value) (l : List Drl.Dr) : Prop := w.ownsRow B 37 3 v l.length (stepCells l)
theorem StepsOwn.at_ {w : World} {B : Nat} {v : Value} {l : List Drl.Dr} (h : StepsOwn w B v l) : (v = .slice none 0 0 ∧ l = []) ∨ ∃ g cap, v = .slice (some ⟨g, 0, none⟩) l.length cap ∧ l.length ≤ cap ∧ g < w.heap.size ∧ B ≤ g ∧ StepsIn w g l := by
  rcases h.2 with ⟨hv, h0⟩ | ⟨g, cap, cur, hv, hb, hh, hn, _, _, _⟩
  · exact .inl ⟨hv, List.eq_nil_of_length_eq_zero h0⟩
  · have hc : ∀ (j : Nat) (u : Value), (stepCells l)[j]? = some u → w.cell? ⟨g, j, none⟩ = some u := by
      intro j u hj
      have := World.ownsRow.cells h (g := g) (by rw [hv]; rfl) j u hj
      have hadd : (⟨g, 0, none⟩ : Addr).add j = ⟨g, j, none⟩ := by unfold Addr.add; split <;> simp_all
      rw [hadd] at this
      exact this
    refine .inr ⟨g, cap, hv, hn, lt_of hh, hb, fun i x hx => ?_⟩
    obtain ⟨h0, h1, h2⟩ := stepCells_get l i x hx
    exact ⟨hc _ _ h0, hc _ _ h1, hc _ _ h2⟩
theorem StepsOwn.next {w w' : World} {B : Nat} {v : Value} {l : List Drl.Dr} (h : StepsOwn w B v l) (hb : Below w.heap.size w w') : StepsOwn w' B v l :=
  ownsRow_keep h (.of_next (S := fun _ => False) (es := fun _ => False) hb) (fun _ _ _ _ => id) id

theorem drilled_ok (w : World) (hE : Env w) : Calls Tryz.prog 11 #[] w fun e w' => e = .returned (.bool true) ∧ Below w.heap.size w w' := by
  have HE := Lib.hid hE
  clear hE
  go_enter Tryz.func11, Tryz.ntmps11
  go_wp2_with fail
  refine (unroll_ok 40 _ w HE.out (.ok (Drl.smallL, 2)) Drl.small_answer).mono ?_
  rintro e w1 ⟨hb, sv, rfl, hown⟩
  obtain ⟨g, cap, rfl, hcap, hg, _, hin⟩ : ∃ g cap, sv = .slice (some ⟨g, 0, none⟩) 8 cap ∧ 8 ≤ cap ∧ g < w1.heap.size ∧ w.heap.size ≤ g ∧ StepsIn w1 g Drl.smallL := by
    rcases StepsOwn.at_ hown with ⟨_, h⟩ | h
    · cases h
    · exact h
  have d0 := hin 0 _ rfl
  have d1 := hin 1 _ rfl
  have d2 := hin 2 _ rfl
  have d7 := hin 7 _ rfl
  have a0 : w1.cell? ⟨g, 0, none⟩ = some (.int .i64 9) := d0.c0
  have a1 : w1.cell? ⟨g, 1, none⟩ = some (.string ⟨#[116, 121, 112, 101, 32, 49, 32, 120, 49]⟩) := d0.c1
  have a2 : w1.cell? ⟨g, 2, none⟩ = some (.bool false) := d0.c2
  have b0 : w1.cell? ⟨g, 3, none⟩ = some (.int .i64 10) := d1.c0
  have b1 : w1.cell? ⟨g, 4, none⟩ = some (.string ⟨#[111, 107, 32, 50]⟩) := d1.c1
  have b2 : w1.cell? ⟨g, 5, none⟩ = some (.bool true) := d1.c2
  have c1 : w1.cell? ⟨g, 7, none⟩ = some (.string ⟨#[116, 121, 112, 101, 32, 50, 32, 120, 50]⟩) := d2.c1
  have e0 : w1.cell? ⟨g, 21, none⟩ = some (.int .i64 5) := d7.c0
  have e1 : w1.cell? ⟨g, 22, none⟩ = some (.string ⟨#[97, 108, 108]⟩) := d7.c1
  have e2 : w1.cell? ⟨g, 23, none⟩ = some (.bool false) := d7.c2
  have HB := Lib.hid hb
  clear hb d0 d1 d2 d7 hin hown
  go_wp2_with fail
  go_ret
  exact ⟨rfl, HB.out⟩
end Go.Proofs.YtfbmlnkgjgnnhaaGreatDoor
