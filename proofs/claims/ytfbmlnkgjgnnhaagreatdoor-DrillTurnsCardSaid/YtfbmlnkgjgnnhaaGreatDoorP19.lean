import Derived.Test.YtfbmlnkgjgnnhaaGreatDoorP18
/-! the drill of the law on limits; no program in sight -/
namespace Drl

def wRound : Str := [114, 111, 117, 110, 100]
def tHead : Str := [99, 108, 105, 101, 110, 116, 115, 32, 49]
def turnsLines (a b : Nat) (line : Bool) : List Str := [tHead, wRepeat ++ 32 :: Go.Lib.decDigits a, wRepeat ++ 32 :: Go.Lib.decDigits b] ++ (if line then [wRound] else []) ++ [wEnd, wEnd]
def turnsText (a b : Nat) (line : Bool) : Str := joinNl (turnsLines a b line)

theorem rep_line (n : Nat) (i : Nat) (r : List Str) : linesFrom i ((wRepeat ++ 32 :: Go.Lib.decDigits n) :: r) = ⟨i, wRepeat ++ 32 :: Go.Lib.decDigits n, [wRepeat, Go.Lib.decDigits n]⟩ :: linesFrom (i + 1) r := by
  have hw := words_two wRepeat (Go.Lib.decDigits n) (by decide) (dec_no n 32 (by decide))
  have ht : trim (wRepeat ++ 32 :: Go.Lib.decDigits n) = wRepeat ++ 32 :: Go.Lib.decDigits n := by simp [trim, wRepeat]
  have hs : says (wRepeat ++ 32 :: Go.Lib.decDigits n) = true := by simp [says, wRepeat]
  rw [linesFrom, ht, if_pos hs, mkLn, hw]
theorem turns_no (a b : Nat) (line : Bool) : ∀ s ∈ turnsLines a b line, ∀ c ∈ s, c ≠ 10 := by
  have h1 : ∀ n, ∀ c ∈ (wRepeat ++ 32 :: Go.Lib.decDigits n : Str), c ≠ 10 := by
    intro n c hc
    rcases List.mem_append.1 hc with hc | hc
    · exact (show ∀ x ∈ wRepeat, x ≠ 10 by decide) c hc
    · rcases List.mem_cons.1 hc with rfl | hc
      · decide
      · exact dec_no n 10 (by decide) c hc
  intro s hs
  unfold turnsLines at hs
  simp only [List.mem_append, List.mem_cons, List.not_mem_nil, or_false] at hs
  rcases hs with (((rfl | rfl | rfl) | hs) | (rfl | rfl))
  · decide
  · exact h1 a
  · exact h1 b
  · cases line
    · simp at hs
    · simp only [if_true, List.mem_singleton] at hs; subst hs; decide
  · decide
  · decide
def turnsLns (a b : Nat) (line : Bool) : List Ln := [⟨0, tHead, [wClients, [49]]⟩, ⟨1, wRepeat ++ 32 :: Go.Lib.decDigits a, [wRepeat, Go.Lib.decDigits a]⟩, ⟨2, wRepeat ++ 32 :: Go.Lib.decDigits b, [wRepeat, Go.Lib.decDigits b]⟩] ++ (if line then [⟨3, wRound, [wRound]⟩, ⟨4, wEnd, [wEnd]⟩, ⟨5, wEnd, [wEnd]⟩] else [⟨3, wEnd, [wEnd]⟩, ⟨4, wEnd, [wEnd]⟩])
theorem turns_lines (a b : Nat) (line : Bool) : lines (turnsText a b line) = turnsLns a b line := by
  unfold turnsText
  rw [lines_joinNl _ (turns_no a b line)]
  have h0 : ∀ r, linesFrom 0 (tHead :: r) = ⟨0, tHead, [wClients, [49]]⟩ :: linesFrom 1 r := fun r => rfl
  unfold turnsLines turnsLns
  simp only [List.cons_append, List.nil_append]
  rw [h0, rep_line, rep_line]
  cases line <;> rfl
theorem rep_ne (n : Nat) : (wRepeat ++ 32 :: Go.Lib.decDigits n : Str) ≠ wEnd := by
  intro h
  have := congrArg (fun s : Str => s.headD 0) h
  revert this
  simp [wRepeat, wEnd]

def repNd (i n : Nat) (body : List Nat) : Nd := { at_ := i, text := wRepeat ++ 32 :: Go.Lib.decDigits n, ws := [wRepeat, Go.Lib.decDigits n], body := body }
def turnsAr (a b : Nat) (line : Bool) : List Nd :=
  if line then [{ body := [1] }, repNd 1 a [2], repNd 2 b [3], { at_ := 3, text := wRound, ws := [wRound] }, { at_ := 4, text := wEnd, ws := [wEnd] }, { at_ := 5, text := wEnd, ws := [wEnd] }]
  else [{ body := [1] }, repNd 1 a [2], repNd 2 b [], { at_ := 3, text := wEnd, ws := [wEnd] }, { at_ := 4, text := wEnd, ws := [wEnd] }]
theorem turns_read (a b : Nat) (line : Bool) (ha : a ≤ 1000) (hb : b ≤ 1000) : readFrom st0 (turnsLns a b line).tail = .ok { ar := turnsAr a b line, opn := [0], names := [] } := by
  unfold turnsLns
  simp only [List.cons_append, List.nil_append, List.tail_cons]
  rw [readFrom_cons (readStep_rep (st := st0) (w := Go.Lib.decDigits a) (rep_ne a) rfl (countsB_dec _ _ a ha))]
  rw [readFrom_cons (readStep_rep (w := Go.Lib.decDigits b) (rep_ne b) rfl (countsB_dec _ _ b hb))]
  cases line
  · rw [if_neg (by decide)]
    refine Eq.trans (readFrom_cons (readStep_end rfl ?_)) ?_
    · exact fun h => absurd (show (2 : Nat) = 0 from h) (by decide)
    refine Eq.trans (readFrom_cons (readStep_end rfl ?_)) ?_
    · exact fun h => absurd (show (1 : Nat) = 0 from h) (by decide)
    rfl
  · rw [if_pos rfl]
    rw [readFrom_cons (readStep_plain (by decide) (by decide) (by decide) (by decide) (by decide))]
    refine Eq.trans (readFrom_cons (readStep_end rfl ?_)) ?_
    · exact fun h => absurd (show (2 : Nat) = 0 from h) (by decide)
    refine Eq.trans (readFrom_cons (readStep_end rfl ?_)) ?_
    · exact fun h => absurd (show (1 : Nat) = 0 from h) (by decide)
    rfl

def rnd : Dr := ⟨3, wRound, false⟩
def stOf (S T : Nat) : PSt := { steps := List.replicate S rnd, said := decide (0 < S), turns := T }
theorem turn_stOf (i S T : Nat) (h : T < 65536) : turn i (stOf S T) = .ok (stOf S (T + 1)) := by
  unfold turn
  rw [if_neg (by simp [stOf]; omega)]
  rfl
theorem turn_stOf_bad (i S T : Nat) (h : T = 65536) : turn i (stOf S T) = .error (i, 294) := by
  unfold turn
  rw [if_pos (by simp [stOf]; omega)]
theorem replicate_snoc (S : Nat) : List.replicate S rnd ++ [rnd] = List.replicate (S + 1) rnd := by
  rw [List.replicate_succ']
theorem step_stOf (v : Nums) (S T : Nat) (h : S < 4096) : step { at_ := 3, text := wRound, ws := [wRound] } v (stOf S T) = .ok (stOf (S + 1) T) := by
  have hd : drOf { at_ := 3, text := wRound, ws := [wRound] } v = rnd := by
    unfold drOf
    rw [if_neg (by decide)]
    simp [rnd, wRound, filled]
  unfold step
  simp only [hd]
  rw [if_neg (by simp [rnd]), if_neg (by simp [stOf]; omega)]
  simp [stOf, replicate_snoc]
theorem step_stOf_bad (v : Nums) (S T : Nat) (h : S = 4096) : step { at_ := 3, text := wRound, ws := [wRound] } v (stOf S T) = .error (3, 294) := by
  have hd : drOf { at_ := 3, text := wRound, ws := [wRound] } v = rnd := by
    unfold drOf
    rw [if_neg (by decide)]
    simp [rnd, wRound, filled]
  unfold step
  simp only [hd]
  rw [if_neg (by simp [rnd]), if_pos (by simp [stOf]; omega)]

/-! ### with a line -/
section
variable (a b : Nat) (v : Nums)
theorem ar1 : nd (turnsAr a b true) 1 = repNd 1 a [2] := rfl
theorem ar2 : nd (turnsAr a b true) 2 = repNd 2 b [3] := rfl
theorem ar3 : nd (turnsAr a b true) 3 = { at_ := 3, text := wRound, ws := [wRound] } := rfl
theorem one_round (S T : Nat) (h : S < 4096) : Runs (turnsAr a b true) (.seq [3] v) (stOf S T) (.ok (stOf (S + 1) T)) :=
  Runs.cons_step (by rw [ar3]; decide) (by rw [ar3]; decide) (by rw [ar3]; decide) (by rw [ar3]; exact step_stOf v S T h) .nil
theorem one_round_bad (S T : Nat) (h : S = 4096) : Runs (turnsAr a b true) (.seq [3] v) (stOf S T) (.error (3, 294)) :=
  Runs.cons_bad (by rw [ar3]; decide) (by rw [ar3]; decide) (by rw [ar3]; decide) (by rw [ar3]; exact step_stOf_bad v S T h)
theorem let2 (x : Int) : (if (nd (turnsAr a b true) 2).letter.toNat ≠ 0 then upd v (nd (turnsAr a b true) 2).letter.toNat x else v) = v := by rw [ar2]; exact if_neg (fun h => h rfl)
theorem let1 (x : Int) : (if (nd (turnsAr a b true) 1).letter.toNat ≠ 0 then upd v (nd (turnsAr a b true) 1).letter.toNat x else v) = v := by rw [ar1]; exact if_neg (fun h => h rfl)
theorem inner : ∀ (m i S T : Nat), b + 1 = i + m → S ≤ 4096 → T + m ≤ 65536 →
    Runs (turnsAr a b true) (.loop 2 [3] v i b) (stOf S T) (if S + m ≤ 4096 then .ok (stOf (S + m) (T + m)) else .error (3, 294))
  | 0, i, S, T, h, hS, _ => by rw [if_pos (by omega)]; exact Runs.loop_done (by omega)
  | m + 1, i, S, T, h, hS, hT => by
    have ht : turn (nd (turnsAr a b true) 2).at_ (stOf S T) = .ok (stOf S (T + 1)) := turn_stOf _ _ _ (by omega)
    by_cases h4 : S = 4096
    · rw [if_neg (by omega)]
      exact Runs.loop_bad (by omega) ht (by rw [let2]; exact one_round_bad a b v S (T + 1) h4)
    · have ih := inner m (i + 1) (S + 1) (T + 1) (by omega) (by omega) (by omega)
      rw [show S + 1 + m = S + (m + 1) by omega, show T + 1 + m = T + (m + 1) by omega] at ih
      refine Runs.loop_ok (by omega) ht (by rw [let2]; exact one_round a b v S (T + 1) (by omega)) ?_
      rw [show (i : Int) + 1 = ((i + 1 : Nat) : Int) by omega]
      exact ih
theorem inner_times (S T : Nat) (hb : b ≤ 1000) (hS : S ≤ 4096) (hT : T + 1 + b ≤ 65536) :
    Runs (turnsAr a b true) (.times 2 [3] v 1 b) (stOf S T) (if S + b ≤ 4096 then .ok (stOf (S + b) (T + 1 + b)) else .error (3, 294)) :=
  Runs.times (st' := stOf S (T + 1)) (turn_stOf _ _ _ (by omega)) (inner a b v b 1 S (T + 1) (by omega) hS hT)
theorem outer (hb : b ≤ 1000) (ha : a ≤ 1000) : ∀ (m t : Nat), a = t + m → t * b ≤ 4096 →
    Runs (turnsAr a b true) (.loop 1 [2] v ((t + 1 : Nat) : Int) a) (stOf (t * b) (1 + 2 * t + t * b)) (if a * b ≤ 4096 then .ok (stOf (a * b) (1 + 2 * a + a * b)) else .error (3, 294))
  | 0, t, h, hS => by
    obtain rfl : a = t := by omega
    rw [if_pos hS]; exact Runs.loop_done (by omega)
  | m + 1, t, h, hS => by
    have hs : (t + 1) * b = t * b + b := by rw [Nat.add_mul, Nat.one_mul]
    have ht : turn (nd (turnsAr a b true) 1).at_ (stOf (t * b) (1 + 2 * t + t * b)) = .ok (stOf (t * b) (1 + 2 * t + t * b + 1)) := turn_stOf _ _ _ (by omega)
    have hi := inner_times a b v (t * b) (1 + 2 * t + t * b + 1) hb hS (by omega)
    have hc : cnt v (wd (nd (turnsAr a b true) 2).ws 1) = some (b : Int) := cnt_dec v b (by omega)
    by_cases h4 : t * b + b ≤ 4096
    · have ih := outer hb ha m (t + 1) (by omega) (by omega)
      rw [if_pos h4] at hi
      refine Runs.loop_ok (st2 := stOf (t * b + b) (1 + 2 * t + t * b + 1 + 1 + b)) (by omega) ht (by rw [let1]; exact Runs.cons_rep rfl hc hi .nil) ?_
      rw [hs] at ih
      rw [show 1 + 2 * t + t * b + 1 + 1 + b = 1 + 2 * (t + 1) + (t * b + b) by omega]
      rw [show ((t + 1 : Nat) : Int) + 1 = ((t + 1 + 1 : Nat) : Int) by omega]
      exact ih
    · rw [if_neg h4] at hi
      have hab : (t + 1) * b ≤ a * b := Nat.mul_le_mul_right b (by omega)
      rw [if_neg (by omega)]
      exact Runs.loop_bad (by omega) ht (by rw [let1]; exact Runs.cons_rep_bad rfl hc hi)
theorem whole (hb : b ≤ 1000) (ha : a ≤ 1000) : Runs (turnsAr a b true) (.seq [1] v) {} (if a * b ≤ 4096 then .ok (stOf (a * b) (1 + 2 * a + a * b)) else .error (3, 294)) := by
  have h0 := outer a b v hb ha a 0 (by omega) (by omega)
  rw [Nat.zero_mul] at h0
  have hc : cnt v (wd (nd (turnsAr a b true) 1).ws 1) = some (a : Int) := cnt_dec v a (by omega)
  have ht : Runs (turnsAr a b true) (.times 1 (nd (turnsAr a b true) 1).body v 1 a) {} (if a * b ≤ 4096 then .ok (stOf (a * b) (1 + 2 * a + a * b)) else .error (3, 294)) :=
    Runs.times (st' := stOf 0 1) (turn_stOf _ 0 0 (by omega)) h0
  by_cases h4 : a * b ≤ 4096
  · rw [if_pos h4] at ht ⊢
    exact Runs.cons_rep rfl hc ht .nil
  · rw [if_neg h4] at ht ⊢
    exact Runs.cons_rep_bad rfl hc ht
end

/-! ### without -/
section
variable (a b : Nat) (v : Nums)
theorem br1 : nd (turnsAr a b false) 1 = repNd 1 a [2] := rfl
theorem br2 : nd (turnsAr a b false) 2 = repNd 2 b [] := rfl
theorem blet2 (x : Int) : (if (nd (turnsAr a b false) 2).letter.toNat ≠ 0 then upd v (nd (turnsAr a b false) 2).letter.toNat x else v) = v := by rw [br2]; exact if_neg (fun h => h rfl)
theorem blet1 (x : Int) : (if (nd (turnsAr a b false) 1).letter.toNat ≠ 0 then upd v (nd (turnsAr a b false) 1).letter.toNat x else v) = v := by rw [br1]; exact if_neg (fun h => h rfl)
theorem binner : ∀ (m i T : Nat), b + 1 = i + m → T ≤ 65536 →
    Runs (turnsAr a b false) (.loop 2 [] v i b) (stOf 0 T) (if T + m ≤ 65536 then .ok (stOf 0 (T + m)) else .error (2, 294))
  | 0, i, T, h, hT => by rw [if_pos (by omega)]; exact Runs.loop_done (by omega)
  | m + 1, i, T, h, hT => by
    by_cases h4 : T = 65536
    · rw [if_neg (by omega)]
      exact Runs.loop_turn (by omega) (turn_stOf_bad _ 0 T h4)
    · have ih := binner m (i + 1) (T + 1) (by omega) (by omega)
      rw [show T + 1 + m = T + (m + 1) by omega] at ih
      refine Runs.loop_ok (by omega) (turn_stOf _ 0 T (by omega)) (by rw [blet2]; exact .nil) ?_
      rw [show (i : Int) + 1 = ((i + 1 : Nat) : Int) by omega]
      exact ih
theorem binner_times (T : Nat) (hT : T ≤ 65536) :
    Runs (turnsAr a b false) (.times 2 [] v 1 b) (stOf 0 T) (if T + 1 + b ≤ 65536 then .ok (stOf 0 (T + 1 + b)) else .error (2, 294)) := by
  by_cases h4 : T = 65536
  · rw [if_neg (by omega)]
    exact Runs.times_bad (turn_stOf_bad _ 0 T h4)
  · exact Runs.times (st' := stOf 0 (T + 1)) (turn_stOf _ 0 T (by omega)) (binner a b v b 1 (T + 1) (by omega) (by omega))

/-- which line comes too late -/
def late (b : Nat) : Nat := if 1 + 65535 / (2 + b) * (2 + b) = 65536 then 1 else 2
theorem late_one (b t : Nat) (h : 1 + t * (2 + b) = 65536) : late b = 1 := by
  have : 65535 / (2 + b) = t := by
    rw [show 65535 = t * (2 + b) by omega]; exact Nat.mul_div_cancel _ (by omega)
  unfold late
  rw [this, if_pos h]
theorem late_two (b t : Nat) (h1 : 1 + t * (2 + b) < 65536) (h2 : 65536 < 1 + (t + 1) * (2 + b)) : late b = 2 := by
  have : 65535 / (2 + b) = t := by
    have e : (t + 1) * (2 + b) = t * (2 + b) + (2 + b) := by rw [Nat.add_mul, Nat.one_mul]
    apply Nat.div_eq_of_lt_le <;> omega
  unfold late
  rw [this, if_neg (by omega)]
theorem bouter (hb : b ≤ 1000) (ha : a ≤ 1000) : ∀ (m t : Nat), a = t + m → 1 + t * (2 + b) ≤ 65536 →
    Runs (turnsAr a b false) (.loop 1 [2] v ((t + 1 : Nat) : Int) a) (stOf 0 (1 + t * (2 + b))) (if 1 + a * (2 + b) ≤ 65536 then .ok (stOf 0 (1 + a * (2 + b))) else .error (late b, 294))
  | 0, t, h, hT => by
    obtain rfl : a = t := by omega
    rw [if_pos hT]; exact Runs.loop_done (by omega)
  | m + 1, t, h, hT => by
    have hs : (t + 1) * (2 + b) = t * (2 + b) + (2 + b) := by rw [Nat.add_mul, Nat.one_mul]
    have hab : (t + 1) * (2 + b) ≤ a * (2 + b) := Nat.mul_le_mul_right _ (by omega)
    by_cases h1 : 1 + t * (2 + b) = 65536
    · rw [if_neg (by omega), late_one b t h1]
      exact Runs.loop_turn (by omega) (turn_stOf_bad _ 0 _ h1)
    · have ht : turn (nd (turnsAr a b false) 1).at_ (stOf 0 (1 + t * (2 + b))) = .ok (stOf 0 (1 + t * (2 + b) + 1)) := turn_stOf _ _ _ (by omega)
      have hi := binner_times a b v (1 + t * (2 + b) + 1) (by omega)
      have hc : cnt v (wd (nd (turnsAr a b false) 2).ws 1) = some (b : Int) := cnt_dec v b (by omega)
      by_cases h4 : 1 + t * (2 + b) + 1 + 1 + b ≤ 65536
      · have ih := bouter hb ha m (t + 1) (by omega) (by omega)
        rw [if_pos h4] at hi
        refine Runs.loop_ok (by omega) ht (by rw [blet1]; exact Runs.cons_rep rfl hc hi .nil) ?_
        rw [show 1 + t * (2 + b) + 1 + 1 + b = 1 + (t + 1) * (2 + b) by omega]
        rw [show ((t + 1 : Nat) : Int) + 1 = ((t + 1 + 1 : Nat) : Int) by omega]
        exact ih
      · rw [if_neg h4] at hi
        rw [if_neg (by omega), late_two b t (by omega) (by omega)]
        exact Runs.loop_bad (by omega) ht (by rw [blet1]; exact Runs.cons_rep_bad rfl hc hi)
theorem bwhole (hb : b ≤ 1000) (ha : a ≤ 1000) : Runs (turnsAr a b false) (.seq [1] v) {} (if 1 + a * (2 + b) ≤ 65536 then .ok (stOf 0 (1 + a * (2 + b))) else .error (late b, 294)) := by
  have h0 := bouter a b v hb ha a 0 (by omega) (by omega)
  rw [Nat.zero_mul] at h0
  have hc : cnt v (wd (nd (turnsAr a b false) 1).ws 1) = some (a : Int) := cnt_dec v a (by omega)
  have ht : Runs (turnsAr a b false) (.times 1 (nd (turnsAr a b false) 1).body v 1 a) {} (if 1 + a * (2 + b) ≤ 65536 then .ok (stOf 0 (1 + a * (2 + b))) else .error (late b, 294)) :=
    Runs.times (st' := stOf 0 1) (turn_stOf _ 0 0 (by omega)) h0
  by_cases h4 : 1 + a * (2 + b) ≤ 65536
  · rw [if_pos h4] at ht ⊢
    exact Runs.cons_rep rfl hc ht .nil
  · rw [if_neg h4] at ht ⊢
    exact Runs.cons_rep_bad rfl hc ht
end

/-- what the drill comes to -/
def turnsR (a b : Nat) (line : Bool) : Except Err (List Dr × Nat) :=
  if line then (if a * b ≤ 4096 then .ok (List.replicate (a * b) rnd, 1) else .error (3, 294))
  else if 1 + a * (2 + b) ≤ 65536 then .ok ([], 1) else .error (late b, 294)
theorem dec_len4 (n : Nat) (h : n ≤ 1000) : (Go.Lib.decDigits n).length ≤ 4 := by
  have := decDigits_len 3 n (by omega)
  omega
theorem turns_len (a b : Nat) (line : Bool) (ha : a ≤ 1000) (hb : b ≤ 1000) : (turnsText a b line).length ≤ 65536 := by
  have h1 := dec_len4 a ha
  have h2 := dec_len4 b hb
  unfold turnsText turnsLines
  cases line <;> simp [joinNl, tHead, wRepeat, wEnd, wRound] <;> omega
theorem turns_answer {k a b : Nat} {line : Bool} {r : Except Err (List Dr × Nat)} (ha : a ≤ 1000) (hb : b ≤ 1000) (h : unroll k (turnsText a b line) = some r) : r = turnsR a b line := by
  have hl := turns_lines a b line
  have hh : headB (lines (turnsText a b line)) = true := by rw [hl]; cases line <;> rfl
  have hn : (headN (lines (turnsText a b line))).toNat = 1 := by rw [hl]; cases line <;> rfl
  have hr := turns_read a b line ha hb
  rw [← hl] at hr
  cases line with
  | true =>
    have := unroll_by h (turns_len a b true ha hb) hh hr (whole a b noNums hb ha)
    rw [this, hn]
    by_cases hq : a * b ≤ 4096
    · simp [turnsR, hq, ansOf, stOf]
    · simp [turnsR, hq, ansOf]
  | false =>
    have := unroll_by h (turns_len a b false ha hb) hh hr (bwhole a b noNums hb ha)
    rw [this, hn]
    by_cases hq : 1 + a * (2 + b) ≤ 65536
    · simp [turnsR, hq, ansOf, stOf]
    · simp [turnsR, hq, ansOf]
end Drl
