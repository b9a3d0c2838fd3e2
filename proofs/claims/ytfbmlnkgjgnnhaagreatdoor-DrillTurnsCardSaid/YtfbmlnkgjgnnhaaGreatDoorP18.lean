import Derived.Test.YtfbmlnkgjgnnhaaGreatDoorP17
/-! texts made of whole lines; going through without fuel; no program in sight -/
namespace Drl

theorem cutAt_part (c : UInt8) (r : Str) : ∀ (u : Str), (∀ x ∈ u, x ≠ c) → cutAt c (u ++ c :: r) = u :: cutAt c r
  | [], _ => by simp [cutAt]
  | x :: u, h => by
    have ih := cutAt_part c r u (fun y hy => h y (by simp [hy]))
    have hx := h x (by simp)
    simp only [List.cons_append, cutAt, if_neg hx, ih]
theorem cutAt_whole (c : UInt8) : ∀ (u : Str), (∀ x ∈ u, x ≠ c) → cutAt c u = [u]
  | [], _ => rfl
  | x :: u, h => by
    have ih := cutAt_whole c u (fun y hy => h y (by simp [hy]))
    have hx := h x (by simp)
    simp only [cutAt, if_neg hx, ih]

/-- a text of whole lines -/
def joinNl : List Str → Str
  | [] => []
  | s :: r => s ++ 10 :: joinNl r
theorem joinNl_append : ∀ (a b : List Str), joinNl (a ++ b) = joinNl a ++ joinNl b
  | [], b => rfl
  | s :: r, b => by simp [joinNl, joinNl_append r b]
theorem cutAt_joinNl : ∀ (l : List Str), (∀ s ∈ l, ∀ c ∈ s, c ≠ 10) → cutAt 10 (joinNl l) = l ++ [[]]
  | [], _ => rfl
  | s :: r, h => by rw [joinNl, cutAt_part 10 _ s (h s (by simp)), cutAt_joinNl r (fun t ht => h t (by simp [ht]))]; rfl
theorem rawLines_joinNl (l : List Str) (h : ∀ s ∈ l, ∀ c ∈ s, c ≠ 10) : rawLines (joinNl l) = l := by
  have e := cutAt_joinNl l h
  unfold rawLines
  have h1 : (cutAt 10 (joinNl l)).getLast (cutAt_ne 10 (joinNl l)) = [] := by simp [e]
  rw [if_pos h1, e]
  simp
theorem lines_joinNl (l : List Str) (h : ∀ s ∈ l, ∀ c ∈ s, c ≠ 10) : lines (joinNl l) = linesFrom 0 l := by
  unfold lines; rw [rawLines_joinNl l h]

theorem words_two (u v : Str) (hu : ∀ x ∈ u, x ≠ 32) (hv : ∀ x ∈ v, x ≠ 32) : words (u ++ 32 :: v) = [u, v] := by
  unfold words; rw [cutAt_part 32 v u hu, cutAt_whole 32 v hv]
theorem words_one (u : Str) (hu : ∀ x ∈ u, x ≠ 32) : words u = [u] := cutAt_whole 32 u hu
theorem dec_no (n : Nat) (c : UInt8) (hc : c.toNat < 48) : ∀ x ∈ Go.Lib.decDigits n, x ≠ c := by
  intro x hx
  have := dec_dig n x hx
  rintro rfl
  omega
theorem countsB_dec (ar : List Nd) (opn : List Nat) (n : Nat) (h : n ≤ 1000) : countsB ar opn (Go.Lib.decDigits n) = true := by
  have hok := numOk_dec n (by omega)
  have hb : numB (Go.Lib.decDigits n) 1000 = true := by
    simp only [numB, hok, numVal_dec, Bool.true_and, decide_eq_true_eq]; omega
  unfold countsB
  split
  · next d c e =>
    have hd := dec_dig n d (by rw [e]; simp)
    rw [if_neg (by omega)]
    exact hb
  · exact hb
theorem cnt_dec (v : Nums) (n : Nat) (h : n ≤ 999999) : cnt v (Go.Lib.decDigits n) = some (n : Int) := by
  rw [cnt_num v _ (numOk_dec n h), numVal_dec]

/-! ### one line is read -/
theorem readStep_rep {st : RSt} {x : Ln} {w : Str} (h1 : x.text ≠ wEnd) (h2 : x.ws = [wRepeat, w]) (h3 : countsB st.ar st.opn w = true) :
    readStep st x = .ok { st with ar := addTo (st.ar ++ [{ at_ := x.at_, text := x.text, ws := x.ws }]) (top st) st.ar.length, opn := st.opn ++ [st.ar.length] } := by
  have hw : wd x.ws 0 = wRepeat := by rw [h2]; rfl
  have hw1 : wd x.ws 1 = w := by rw [h2]; rfl
  have hne : wrongE st x = 0 := by
    unfold wrongE
    rw [hw, if_neg (by decide), if_pos rfl, hw1, h3]
    simp [h2]
  unfold readStep
  simp only [if_neg h1, hne, hw]
  rfl
theorem readStep_plain {st : RSt} {x : Ln} (h1 : x.text ≠ wEnd) (h2 : wd x.ws 0 ≠ wDef) (h3 : wd x.ws 0 ≠ wRepeat) (h4 : wd x.ws 0 ≠ wFor) (h5 : wd x.ws 0 ≠ wUse) :
    readStep st x = .ok { st with ar := addTo (st.ar ++ [{ at_ := x.at_, text := x.text, ws := x.ws }]) (top st) st.ar.length } := by
  have hne : wrongE st x = 0 := by
    unfold wrongE
    rw [if_neg h2, if_neg h3, if_neg h4, if_neg h5]
  unfold readStep
  simp only [if_neg h1, hne, if_neg h2, if_neg h3, if_neg h4, if_neg h5]
  rfl
theorem readStep_end {st : RSt} {x : Ln} (h1 : x.text = wEnd) (h2 : top st ≠ 0) :
    readStep st x = .ok { ar := st.ar ++ [{ at_ := x.at_, text := x.text, ws := x.ws }], opn := st.opn.dropLast, names := if wd (nd st.ar (top st)).ws 0 = wDef then st.names ++ [(wd (nd st.ar (top st)).ws 1, top st)] else st.names } := by
  unfold readStep
  simp only [if_pos h1, if_neg h2]
theorem readFrom_cons {st st' : RSt} {x : Ln} {r : List Ln} (h : readStep st x = .ok st') : readFrom st (x :: r) = readFrom st' r := by
  simp only [readFrom, h]

/-! ### going through -/
def Runs (ar : List Nd) (t : Task) (st : PSt) (r : Except Err PSt) : Prop := ∃ k, run ar k t st = some r
theorem Runs.nil {ar : List Nd} {v : Nums} {st : PSt} : Runs ar (.seq [] v) st (.ok st) := ⟨1, rfl⟩
theorem Runs.det {ar : List Nd} {t : Task} {st : PSt} {r r' : Except Err PSt} (h : Runs ar t st r) (h' : Runs ar t st r') : r = r' := by
  obtain ⟨k, h⟩ := h
  obtain ⟨k', h'⟩ := h'
  have a := run_mono (Nat.le_max_left k k') h
  have b := run_mono (Nat.le_max_right k k') h'
  rw [a] at b
  exact Option.some.inj b
theorem Runs.cons_step {ar : List Nd} {n : Nat} {l : List Nat} {v : Nums} {st st' : PSt} {r : Except Err PSt} (h1 : wd (nd ar n).ws 0 ≠ wRepeat) (h2 : wd (nd ar n).ws 0 ≠ wFor) (h3 : wd (nd ar n).ws 0 ≠ wUse) (hs : step (nd ar n) v st = .ok st') (h : Runs ar (.seq l v) st' r) : Runs ar (.seq (n :: l) v) st r := by
  obtain ⟨k, h⟩ := h
  refine ⟨k + 1, ?_⟩
  simp only [run, if_neg h1, if_neg h2, if_neg h3, hs]
  exact h
theorem Runs.cons_bad {ar : List Nd} {n : Nat} {l : List Nat} {v : Nums} {st : PSt} {e : Err} (h1 : wd (nd ar n).ws 0 ≠ wRepeat) (h2 : wd (nd ar n).ws 0 ≠ wFor) (h3 : wd (nd ar n).ws 0 ≠ wUse) (hs : step (nd ar n) v st = .error e) : Runs ar (.seq (n :: l) v) st (.error e) := by
  refine ⟨1, ?_⟩
  simp only [run, if_neg h1, if_neg h2, if_neg h3, hs]
theorem Runs.cons_rep {ar : List Nd} {n : Nat} {l : List Nat} {v : Nums} {st st' : PSt} {r : Except Err PSt} {c : Int} (h1 : wd (nd ar n).ws 0 = wRepeat) (hc : cnt v (wd (nd ar n).ws 1) = some c) (hs : Runs ar (.times n (nd ar n).body v 1 c) st (.ok st')) (h : Runs ar (.seq l v) st' r) : Runs ar (.seq (n :: l) v) st r := by
  obtain ⟨k, h⟩ := h
  obtain ⟨k', hs⟩ := hs
  refine ⟨max k k' + 1, ?_⟩
  simp only [run, if_pos h1, hc, Option.bind_some, run_mono (Nat.le_max_right k k') hs]
  exact run_mono (Nat.le_max_left k k') h
theorem Runs.cons_rep_bad {ar : List Nd} {n : Nat} {l : List Nat} {v : Nums} {st : PSt} {e : Err} {c : Int} (h1 : wd (nd ar n).ws 0 = wRepeat) (hc : cnt v (wd (nd ar n).ws 1) = some c) (hs : Runs ar (.times n (nd ar n).body v 1 c) st (.error e)) : Runs ar (.seq (n :: l) v) st (.error e) := by
  obtain ⟨k, hs⟩ := hs
  refine ⟨k + 1, ?_⟩
  simp only [run, if_pos h1, hc, Option.bind_some, hs]
theorem Runs.times {ar : List Nd} {n : Nat} {body : List Nat} {v : Nums} {a b : Int} {st st' : PSt} {r : Except Err PSt} (ht : turn (nd ar n).at_ st = .ok st') (h : Runs ar (.loop n body v a b) st' r) : Runs ar (.times n body v a b) st r := by
  obtain ⟨k, h⟩ := h
  refine ⟨k + 1, ?_⟩
  simp only [run, ht]
  exact h
theorem Runs.times_bad {ar : List Nd} {n : Nat} {body : List Nat} {v : Nums} {a b : Int} {st : PSt} {e : Err} (ht : turn (nd ar n).at_ st = .error e) : Runs ar (.times n body v a b) st (.error e) := by
  refine ⟨1, ?_⟩
  simp only [run, ht]
theorem Runs.loop_done {ar : List Nd} {n : Nat} {body : List Nat} {v : Nums} {a b : Int} {st : PSt} (h : b < a) : Runs ar (.loop n body v a b) st (.ok st) := by
  refine ⟨1, ?_⟩
  simp only [run, if_neg (show ¬ a ≤ b by omega)]
theorem Runs.loop_turn {ar : List Nd} {n : Nat} {body : List Nat} {v : Nums} {a b : Int} {st : PSt} {e : Err} (h : a ≤ b) (ht : turn (nd ar n).at_ st = .error e) : Runs ar (.loop n body v a b) st (.error e) := by
  refine ⟨1, ?_⟩
  simp only [run, if_pos h, ht]
theorem Runs.loop_bad {ar : List Nd} {n : Nat} {body : List Nat} {v : Nums} {a b : Int} {st st1 : PSt} {e : Err} (h : a ≤ b) (ht : turn (nd ar n).at_ st = .ok st1) (hs : Runs ar (.seq body (if (nd ar n).letter.toNat ≠ 0 then upd v (nd ar n).letter.toNat a else v)) st1 (.error e)) : Runs ar (.loop n body v a b) st (.error e) := by
  obtain ⟨k, hs⟩ := hs
  refine ⟨k + 1, ?_⟩
  simp only [run, if_pos h, ht, hs]
theorem Runs.loop_ok {ar : List Nd} {n : Nat} {body : List Nat} {v : Nums} {a b : Int} {st st1 st2 : PSt} {r : Except Err PSt} (h : a ≤ b) (ht : turn (nd ar n).at_ st = .ok st1) (hs : Runs ar (.seq body (if (nd ar n).letter.toNat ≠ 0 then upd v (nd ar n).letter.toNat a else v)) st1 (.ok st2)) (hr : Runs ar (.loop n body v (a + 1) b) st2 r) : Runs ar (.loop n body v a b) st r := by
  obtain ⟨k, hr⟩ := hr
  obtain ⟨k', hs⟩ := hs
  refine ⟨max k k' + 1, ?_⟩
  simp only [run, if_pos h, ht, run_mono (Nat.le_max_right k k') hs]
  exact run_mono (Nat.le_max_left k k') hr

def ansOf (n : Nat) : Except Err PSt → Except Err (List Dr × Nat)
  | .error e => .error e
  | .ok s => .ok (s.steps, n)
/-- the answer, by its parts -/
theorem unroll_by {k : Nat} {text : Str} {r : Except Err (List Dr × Nat)} (h : unroll k text = some r) (h0 : text.length ≤ 65536) (h1 : headB (lines text) = true) {st : RSt} (h2 : readFrom st0 (lines text).tail = .ok st) {r' : Except Err PSt} (h3 : Runs st.ar (.seq (nd st.ar 0).body noNums) {} r') :
    r = ansOf (headN (lines text)).toNat r' := by
  unfold unroll at h
  rw [if_neg (by omega), if_neg (by rw [h1]; decide), h2] at h
  dsimp only at h
  split at h
  · cases h
  · next e hr =>
    obtain rfl := Runs.det ⟨k, hr⟩ h3
    exact (Option.some.inj h).symm
  · next s hr =>
    obtain rfl := Runs.det ⟨k, hr⟩ h3
    exact (Option.some.inj h).symm
end Drl
