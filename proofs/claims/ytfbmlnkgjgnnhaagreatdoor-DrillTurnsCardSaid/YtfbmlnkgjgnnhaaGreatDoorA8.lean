import Derived.Test.YtfbmlnkgjgnnhaaGreatDoorA7
namespace Go.Proofs.YtfbmlnkgjgnnhaaGreatDoor
open Go.RowKit
set_option linter.unusedVariables false

theorem strV_eq {t : Drl.Str} {b : ByteArray} (h : b.data.toList = t) : strV t = .string b := by subst h; rfl
theorem exists_str (t : Drl.Str) : ∃ b : ByteArray, b.data.toList = t := ⟨⟨⟨t⟩⟩, rfl⟩
theorem toList_eq (b : ByteArray) (c : Drl.Str) : (b.toList == c) = decide (b.data.toList = c) := by
  rw [toList_data]
  by_cases h : b.data.toList = c
  · simp [h]
  · rw [decide_eq_false h]; simpa using h
theorem eq_yes {b : ByteArray} {t c : Drl.Str} (h : b.data.toList = t) (e : t = c) : (b.toList == c) = true := by rw [toList_eq, h]; simpa using e
theorem eq_no {b : ByteArray} {t c : Drl.Str} (h : b.data.toList = t) (e : t ≠ c) : (b.toList == c) = false := by rw [toList_eq, h]; simpa using e

/-- words at a block -/
def WordsIn (w : World) (b : Nat) (ws : List Drl.Str) : Prop := w.heap[b]? = some (.cells (ws.map strV).toArray 9 (0, 0))
theorem WordsIn.cell {w : World} {b : Nat} {ws : List Drl.Str} (h : WordsIn w b ws) (i : Nat) (hi : i < ws.length) : w.cell? ⟨b, i, none⟩ = some (strV (Drl.wd ws i)) := by
  refine cell_of h ?_
  simp [Drl.wd, hi]
theorem WordsIn.str {w : World} {b : Nat} {ws : List Drl.Str} (h : WordsIn w b ws) (i : Nat) (hi : i < ws.length) : ∃ s : ByteArray, s.data.toList = Drl.wd ws i ∧ w.cell? ⟨b, i, none⟩ = some (.string s) := by
  obtain ⟨s, hs⟩ := exists_str (Drl.wd ws i)
  exact ⟨s, hs, by rw [h.cell i hi, strV_eq hs]⟩
theorem WordsIn.keep {S : Nat → Prop} {es : TypeId → Prop} {w w' : World} {b : Nat} {ws : List Drl.Str} (h : WordsIn w b ws) (hk : Keep S es w w') (hS : ¬ S b) (he : ¬ es 9) : WordsIn w' b ws := hk.cells h hS he

/-- a line at cells o, o + 1, o + 2 of a block -/
structure LineAt (w : World) (g o : Nat) (x : Drl.Ln) : Prop where
  c0 : w.cell? ⟨g, o, none⟩ = some (.int .i64 x.at_)
  c1 : w.cell? ⟨g, o + 1, none⟩ = some (strV x.text)
  c2 : ∃ b, w.cell? ⟨g, o + 2, none⟩ = some (.slice (some ⟨b, 0, none⟩) x.ws.length x.ws.length) ∧ WordsIn w b x.ws

/-- lines at a block, from offset o on -/
def LinesIn (w : World) (g o : Nat) (l : List Drl.Ln) : Prop := ∀ i x, l[i]? = some x → LineAt w g (o + 3 * i) x

theorem lineCells_at {w : World} {g : Nat} : ∀ {cs : List Value} {l : List Drl.Ln} (o : Nat), LineCells w cs l → (∀ j u, cs[j]? = some u → w.cell? ⟨g, o + j, none⟩ = some u) → LinesIn w g o l
  | [], [], _, _, _ => fun i x h => by simp at h
  | c0 :: c1 :: c2 :: r, y :: l, o, ⟨h0, h1, ⟨b, h2, h2'⟩, h3⟩, hc => by
    intro i x hx
    cases i with
    | zero =>
      simp at hx; subst hx
      refine ⟨?_, ?_, b, ?_, h2'⟩
      · have := hc 0 c0 rfl; rw [h0] at this; exact this
      · have := hc 1 c1 rfl; rw [h1] at this; exact this
      · have := hc 2 c2 rfl; rw [h2] at this; exact this
    | succ i =>
      have := lineCells_at (o + 3) h3 (fun j u hj => by
        have := hc (j + 3) u (by simpa using hj)
        rw [show o + 3 + j = o + (j + 3) by omega]; exact this) i x (by simpa using hx)
      rw [show o + 3 * (i + 1) = o + 3 + 3 * i by omega]; exact this
  | [], _ :: _, _, h, _ => h.elim
  | [_], _, _, h, _ => by simp [LineCells] at h
  | [_, _], _, _, h, _ => by simp [LineCells] at h
  | _ :: _ :: _ :: _, [], _, h, _ => by simp [LineCells] at h

theorem LinesOwn.at_ {w : World} {B : Nat} {v : Value} {l : List Drl.Ln} (h : LinesOwn w B v l) : (v = .slice none 0 0 ∧ l = []) ∨ ∃ g cap, v = .slice (some ⟨g, 0, none⟩) l.length cap ∧ l.length ≤ cap ∧ g < w.heap.size ∧ LinesIn w g 0 l := by
  obtain ⟨cs, hown, hcs⟩ := h
  rcases hown.2 with ⟨hv, h0⟩ | ⟨g, cap, cur, hv, hb, hh, hn, _, _, _⟩
  · exact .inl ⟨hv, List.eq_nil_of_length_eq_zero h0⟩
  · refine .inr ⟨g, cap, hv, hn, lt_of hh, lineCells_at 0 hcs ?_⟩
    intro j u hj
    have := hown.cells (g := g) (by rw [hv]; rfl) j u hj
    have hadd : (⟨g, 0, none⟩ : Addr).add j = ⟨g, j, none⟩ := by unfold Addr.add; split <;> simp_all
    rw [hadd] at this
    rw [Nat.zero_add]; exact this

theorem LineAt.keep {S : Nat → Prop} {es : TypeId → Prop} {w w' : World} {g o : Nat} {x : Drl.Ln} (h : LineAt w g o x) (hk : Below w.heap.size w w') : LineAt w' g o x := by
  obtain ⟨h0, h1, b, h2, h3⟩ := h
  exact ⟨by rw [hk.cell (cell_lt h0)]; exact h0, by rw [hk.cell (cell_lt h1)]; exact h1, b, by rw [hk.cell (cell_lt h2)]; exact h2, (hk.block b (lt_of h3)).trans h3⟩
theorem LinesIn.keep {w w' : World} {g o : Nat} {l : List Drl.Ln} (h : LinesIn w g o l) (hk : Below w.heap.size w w') : LinesIn w' g o l :=
  fun i x hx => (h i x hx).keep (S := fun _ => False) (es := fun _ => False) hk
theorem LinesIn.tail {w : World} {g o : Nat} {x : Drl.Ln} {l : List Drl.Ln} (h : LinesIn w g o (x :: l)) : LinesIn w g (o + 3) l := fun i y hy => by
  have := h (i + 1) y (by simpa using hy)
  rw [show o + 3 + 3 * i = o + 3 * (i + 1) by omega]; exact this

theorem ret_ib {a b : Int} {c d : Bool} (h : a = b) (k : c = d) : Ending.returned (.tuple #[.int .i64 a, .bool c]) = .returned (.tuple #[.int .i64 b, .bool d]) := by rw [h, k]

theorem head_nil (lv : Value) (ao : Option Addr) (cap : Nat) (w : World) (hv : lv = .slice ao 0 cap) :
    Calls Tryz.prog 20 #[lv] w fun e w' => e = .returned (.tuple #[.int .i64 (Drl.headN []), .bool (Drl.headB [])]) ∧ w = w' := by
  subst hv
  go_enter Tryz.func20, Tryz.ntmps20
  go_wp2_with fail
  go_ret2
  exact ⟨rfl, rfl⟩

theorem head_bad {x : Drl.Ln} {r : List Drl.Ln} (h : ¬ (x.ws.length = 2 ∧ Drl.wd x.ws 0 = Drl.wClients)) : (0 : Int) = Drl.headN (x :: r) ∧ false = Drl.headB (x :: r) := by
  simp [Drl.headN, Drl.headB, h]
theorem head_good {x : Drl.Ln} {r : List Drl.Ln} (h : x.ws.length = 2 ∧ Drl.wd x.ws 0 = Drl.wClients) : Drl.numN (Drl.wd x.ws 1) = Drl.headN (x :: r) ∧ (Drl.numB (Drl.wd x.ws 1) 64 && decide (0 < Drl.numN (Drl.wd x.ws 1))) = Drl.headB (x :: r) := by
  simp [Drl.headN, Drl.headB, h]

set_option maxRecDepth 100000 in
set_option maxHeartbeats 1000000 in
theorem head_cons (g cap : Nat) (x : Drl.Ln) (r : List Drl.Ln) (w : World) (hL : LineAt w g 0 x) :
    Calls Tryz.prog 20 #[.slice (some ⟨g, 0, none⟩) (r.length + 1) cap] w fun e w' => e = .returned (.tuple #[.int .i64 (Drl.headN (x :: r)), .bool (Drl.headB (x :: r))]) ∧ Below w.heap.size w w' := by
  obtain ⟨_, _, b, h2, hW⟩ := hL
  simp only [Nat.zero_add] at h2
  by_cases hl : x.ws.length = 2
  · obtain ⟨s0, hs0, hc0⟩ := hW.str 0 (by omega)
    obtain ⟨s1, hs1, hc1⟩ := hW.str 1 (by omega)
    have HW := Lib.hid hW
    rw [hl] at h2
    by_cases h0 : Drl.wd x.ws 0 = Drl.wClients
    · have e0 := eq_yes hs0 h0
      have HG := Lib.hid (head_good (r := r) ⟨hl, h0⟩)
      have H1 := Lib.hid hs1
      clear hW hl h0 hs0 hs1
      unfold Drl.wClients at e0
      go_enter Tryz.func20, Tryz.ntmps20
      go_wp2_with fail
      refine (number_any s1 64 _).mono ?_
      rintro e w' ⟨rfl, hb⟩
      rw [H1.out]
      obtain ⟨hg1, hg2⟩ := HG.out
      generalize Drl.numN (Drl.wd x.ws 1) = N at hg1 hg2 ⊢
      generalize Drl.numB (Drl.wd x.ws 1) 64 = Bv at hg2 ⊢
      have G1 := Lib.hid hg1
      have G2 := Lib.hid hg2
      clear hg1 hg2 HG hc0 hc1 h2
      cases Bv
      · go_wp2_with fail
        go_ret2
        exact ⟨ret_ib G1.out (by rw [← G2.out]; rfl), hb⟩
      · go_wp2_with fail
        go_ret2
        exact ⟨ret_ib G1.out (by rw [← G2.out]; simp), hb⟩
    · have e0 := eq_no hs0 h0
      have HG := Lib.hid (head_bad (r := r) (fun e => h0 e.2))
      clear hW hl h0 hs0 hs1
      unfold Drl.wClients at e0
      go_enter Tryz.func20, Tryz.ntmps20
      go_wp2_with fail
      go_ret2
      exact ⟨ret_ib HG.out.1 HG.out.2, Below.refl _ _⟩
  · have HG := Lib.hid (head_bad (r := r) (fun e => hl e.1))
    have el : (((x.ws.length : Int)) != 2) = true := by simp [bne]; omega
    clear hW hl
    go_enter Tryz.func20, Tryz.ntmps20
    go_wp2_with fail
    go_ret2
    exact ⟨ret_ib HG.out.1 HG.out.2, Below.refl _ _⟩
end Go.Proofs.YtfbmlnkgjgnnhaaGreatDoor
