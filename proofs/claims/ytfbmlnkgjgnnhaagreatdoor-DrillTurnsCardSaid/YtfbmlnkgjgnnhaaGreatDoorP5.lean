import Derived.Test.YtfbmlnkgjgnnhaaGreatDoorP4
/-! what the lines are like; no program in sight -/
namespace Drl

theorem cutAt_len (c : UInt8) : ∀ s : Str, (cutAt c s).length ≤ s.length + 1
  | [] => by simp [cutAt]
  | x :: r => by
    have ih := cutAt_len c r
    unfold cutAt
    split
    · simp; omega
    · split
      · next h => rw [h] at ih; simp at ih ⊢; omega
      · simp
theorem cutAt_mem (c : UInt8) : ∀ (s : Str), ∀ t ∈ cutAt c s, t.length ≤ s.length
  | [], t, h => by simp [cutAt] at h; subst h; simp
  | x :: r, t, h => by
    have ih := cutAt_mem c r
    unfold cutAt at h
    split at h
    · rcases List.mem_cons.1 h with rfl | h
      · simp
      · have := ih t h; simp; omega
    · split at h
      · next w ws e =>
        rcases List.mem_cons.1 h with rfl | h
        · have := ih w (by rw [e]; simp); simp; omega
        · have := ih t (by rw [e]; simp [h]); simp; omega
      · simp at h; subst h; simp
theorem cutAt_last (c : UInt8) : ∀ (s : Str), (cutAt c s).getLast (cutAt_ne c s) ≠ [] → (cutAt c s).length ≤ s.length
  | [], h => by simp [cutAt] at h
  | x :: r, h => by
    have ih := cutAt_last c r
    have hl := cutAt_len c r
    by_cases e : x = c
    · have e1 : cutAt c (x :: r) = [] :: cutAt c r := by simp [cutAt, e]
      simp only [e1] at h ⊢
      rw [List.getLast_cons (cutAt_ne c r)] at h
      have := ih h
      simp; omega
    · cases hc : cutAt c r with
      | nil => exact absurd hc (cutAt_ne c r)
      | cons w ws =>
        have e1 : cutAt c (x :: r) = (x :: w) :: ws := by simp [cutAt, e, hc]
        simp only [e1] at h ⊢
        rw [hc] at hl
        simp at hl ⊢
        omega
theorem rawLines_len (s : Str) : (rawLines s).length ≤ s.length := by
  unfold rawLines
  split
  · rw [List.length_dropLast]; have := cutAt_len 10 s; omega
  · next h => exact cutAt_last 10 s h
theorem rawLines_mem (s : Str) : ∀ t ∈ rawLines s, t.length ≤ s.length := by
  intro t h
  unfold rawLines at h
  split at h
  · exact cutAt_mem 10 s t (List.dropLast_subset _ h)
  · exact cutAt_mem 10 s t h

/-- a line as it is cut out of a text of at most L bytes -/
structure LnOk (L : Nat) (x : Ln) : Prop where
  ws : x.ws = words x.text
  len : x.text.length ≤ L
  at_ : x.at_ < L

theorem linesFrom_ok (L : Nat) : ∀ (l : List Str) (i : Nat), (∀ t ∈ l, t.length ≤ L) → i + l.length ≤ L → (linesFrom i l).length ≤ l.length ∧ ∀ x ∈ linesFrom i l, LnOk L x
  | [], i, _, _ => by simp [linesFrom]
  | s :: r, i, hm, hl => by
    have ih := linesFrom_ok L r (i + 1) (fun t ht => hm t (by simp [ht])) (by simp at hl; omega)
    unfold linesFrom
    split
    · refine ⟨by simp; exact ih.1, fun x hx => ?_⟩
      rcases List.mem_cons.1 hx with rfl | hx
      · refine ⟨rfl, ?_, by simp only [mkLn]; simp at hl; omega⟩
        have h1 : (trim s).length ≤ s.length := (List.dropWhile_sublist _).length_le
        have h2 := hm s (by simp)
        simp only [mkLn]; omega
      · exact ih.2 x hx
    · exact ⟨by simp; omega, ih.2⟩
theorem lines_ok (s : Str) : (lines s).length ≤ s.length ∧ ∀ x ∈ lines s, LnOk s.length x := by
  have h := linesFrom_ok s.length (rawLines s) 0 (rawLines_mem s) (by have := rawLines_len s; omega)
  exact ⟨Nat.le_trans h.1 (rawLines_len s), h.2⟩
theorem words_pos (s : Str) : 1 ≤ (words s).length := by
  have := cutAt_ne 32 s
  cases h : cutAt 32 s with
  | nil => exact absurd h this
  | cons a l => simp [words, h]
theorem LnOk.small {L : Nat} {x : Ln} (h : LnOk L x) : 1 ≤ x.ws.length ∧ (∀ t ∈ x.ws, t.length ≤ L) ∧ x.at_ ≤ L := by
  refine ⟨by rw [h.ws]; exact words_pos _, fun t ht => ?_, Nat.le_of_lt h.at_⟩
  rw [h.ws] at ht
  have := cutAt_mem 32 x.text t ht
  have := h.len
  omega
/-- the first word is a beginning -/
theorem words_head (s : Str) : (wd (words s) 0).length ≤ s.length := by
  have := words_pos s
  have hm : wd (words s) 0 ∈ words s := by
    unfold wd
    rw [List.getD_eq_getElem?_getD, List.getElem?_eq_getElem (by omega)]
    simp
  exact cutAt_mem 32 s _ hm
end Drl
