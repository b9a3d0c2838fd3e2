import Derived.Test.YtfbmlnkgjgnnhaaGreatDoorP7
/-! going through ends: with enough fuel there is an answer; no program in sight -/
namespace Drl

theorem isDig_dec : ∀ n : Nat, (Go.Lib.decDigits n).all isDig = true := by
  intro n
  induction n using Nat.strongRecOn with
  | _ n ih =>
    have hd : ∀ i, i < 10 → isDig (UInt8.ofNat (48 + i)) = true := by decide
    rw [Go.Lib.decDigits]
    split
    · next h => simp only [List.all_cons, List.all_nil, Bool.and_true, hd n h]
    · next h =>
      rw [List.all_append, ih (n / 10) (by omega)]
      simp only [List.all_cons, List.all_nil, Bool.and_true, hd (n % 10) (by omega)]
theorem numVal_snoc (l : Str) (c : UInt8) : numVal (l ++ [c]) = numVal l * 10 + (c.toNat - 48) := by simp [numVal]
theorem numVal_dec : ∀ n : Nat, numVal (Go.Lib.decDigits n) = n := by
  intro n
  induction n using Nat.strongRecOn with
  | _ n ih =>
    have hd : ∀ i, i < 10 → (UInt8.ofNat (48 + i)).toNat - 48 = i := by decide
    rw [Go.Lib.decDigits]
    split
    · next h => simp only [numVal, List.foldl_cons, List.foldl_nil]; rw [hd n h]; omega
    · next h =>
      rw [numVal_snoc, ih (n / 10) (by omega), hd (n % 10) (by omega)]
      omega
theorem dec_head : ∀ n : Nat, 1 ≤ n → ((Go.Lib.decDigits n).headD 0).toNat ≠ 48 := by
  intro n
  induction n using Nat.strongRecOn with
  | _ n ih =>
    intro h1
    have hd : ∀ i, i < 10 → (UInt8.ofNat (48 + i)).toNat = 48 + i := by decide
    rw [Go.Lib.decDigits]
    split
    · next h => simp only [List.headD_cons]; rw [hd n h]; omega
    · next h =>
      have := ih (n / 10) (by omega) (by omega)
      cases hl : Go.Lib.decDigits (n / 10) with
      | nil => rw [hl] at this; exfalso; rw [Go.Lib.decDigits] at hl; split at hl <;> simp at hl
      | cons a r => rw [hl] at this; simpa using this
theorem dec_pos (n : Nat) : 1 ≤ (Go.Lib.decDigits n).length := by rw [Go.Lib.decDigits_length]; exact Go.Lib.nDigits_pos n
theorem numOk_dec (n : Nat) (h : n ≤ 999999) : numOk (Go.Lib.decDigits n) = true := by
  have h1 := dec_pos n
  have h6 := decDigits_len 5 n (by omega)
  have hd := isDig_dec n
  simp only [numOk, hd, Bool.and_true, Bool.and_eq_true, decide_eq_true_eq, Bool.not_eq_true', Bool.and_eq_false_iff, decide_eq_false_iff_not]
  refine ⟨⟨h1, h6⟩, ?_⟩
  by_cases e : 1 ≤ n
  · right; exact dec_head n e
  · left
    have : n = 0 := by omega
    subst this
    rw [Go.Lib.decDigits_one (by omega)]; simp

theorem filled_digs (v : Nums) : ∀ s : Str, s.all isDig = true → filled v s = s
  | [], _ => filled_nil v
  | c :: r, h => by
    simp only [List.all_cons, Bool.and_eq_true] at h
    have hc : 48 ≤ c.toNat ∧ c.toNat ≤ 57 := by simpa [isDig] using h.1
    rw [filled_plain v c r (by omega), filled_digs v r h.2]
theorem cnt_num (v : Nums) (s : Str) (h : numOk s = true) : cnt v s = some (numVal s : Int) := by
  have hd : s.all isDig = true := by simp only [numOk, Bool.and_eq_true] at h; exact h.2
  unfold cnt
  rw [filled_digs v s hd, if_pos h]
theorem isLet_lt {c : UInt8} (h : isLet c = true) : c.toNat < 128 := by
  simp only [isLet, Bool.and_eq_true, decide_eq_true_eq] at h
  omega
theorem cnt_let (v : Nums) (d c : UInt8) (h1 : d.toNat = 36) (h2 : isLet c = true) (h3 : 0 ≤ v c.toNat) (h4 : v c.toNat ≤ 999999) : cnt v [d, c] = some (v c.toNat) := by
  unfold cnt
  rw [filled_put v d c [] h1 (isLet_lt h2) h3, filled_nil, List.append_nil, if_pos (numOk_dec _ (by omega)), numVal_dec]
  congr 1; omega
theorem cnt_range {v : Nums} {s : Str} {n : Int} (h : cnt v s = some n) : 0 ≤ n ∧ n ≤ 999999 := by
  unfold cnt at h
  split at h
  · next hok =>
    have := numVal_lt _ hok
    have := Option.some.inj h
    omega
  · cases h

/-- may the word be a number where these letters stand for something? -/
def WordOk (L : List UInt8) (s : Str) : Prop := numOk s = true ∨ ∃ d c, s = [d, c] ∧ d.toNat = 36 ∧ isLet c = true ∧ c ∈ L
theorem WordOk.cnt {L : List UInt8} {s : Str} (h : WordOk L s) (v : Nums) (hv : ∀ c, v c ≤ 999999) (hL : ∀ c ∈ L, isLet c = true → 0 ≤ v c.toNat) : ∃ n, cnt v s = some n := by
  rcases h with h | ⟨d, c, rfl, hd, hc, hm⟩
  · exact ⟨_, cnt_num v s h⟩
  · exact ⟨_, cnt_let v d c hd hc (hL c hm hc) (hv _)⟩

/-- which letters stand for something in a node's body -/
structure Scoped (ar : List Nd) (S : Nat → List UInt8) : Prop where
  rep : ∀ i, i < ar.length → ∀ n ∈ (nd ar i).body, wd (nd ar n).ws 0 = wRepeat → WordOk (S i) (wd (nd ar n).ws 1)
  for_ : ∀ i, i < ar.length → ∀ n ∈ (nd ar i).body, wd (nd ar n).ws 0 = wFor → WordOk (S i) (wd (nd ar n).ws 2) ∧ WordOk (S i) (wd (nd ar n).ws 3)
  blk : ∀ i, i < ar.length → ∀ n ∈ (nd ar i).body, (wd (nd ar n).ws 0 = wRepeat ∨ wd (nd ar n).ws 0 = wFor) → ∀ c ∈ S n, c ∈ S i ∨ (c = (nd ar n).letter)
  use : ∀ i, i < ar.length → ∀ n ∈ (nd ar i).body, wd (nd ar n).ws 0 = wUse → ∀ d, (nd ar n).use = some d → S d = []

theorem run_mono1 (ar : List Nd) : ∀ (k : Nat) (t : Task) (st : PSt) (r : Except Err PSt), run ar k t st = some r → run ar (k + 1) t st = some r := by
  intro k
  induction k with
  | zero => intro t st r h; simp [run] at h
  | succ k ih =>
    intro t st r h
    cases t with
    | seq l v =>
      cases l with
      | nil => simpa [run] using h
      | cons n l =>
        have key : ∀ q, (if wd (nd ar n).ws 0 = wRepeat then (cnt v (wd (nd ar n).ws 1)).bind fun c => run ar k (.times n (nd ar n).body v 1 c) st
            else if wd (nd ar n).ws 0 = wFor then (cnt v (wd (nd ar n).ws 2)).bind fun a => (cnt v (wd (nd ar n).ws 3)).bind fun b => run ar k (.times n (nd ar n).body v a b) st
            else if wd (nd ar n).ws 0 = wUse then (nd ar n).use.bind fun d => run ar k (.times n (nd ar d).body noNums 1 1) st
            else some (step (nd ar n) v st)) = some q → (if wd (nd ar n).ws 0 = wRepeat then (cnt v (wd (nd ar n).ws 1)).bind fun c => run ar (k + 1) (.times n (nd ar n).body v 1 c) st
            else if wd (nd ar n).ws 0 = wFor then (cnt v (wd (nd ar n).ws 2)).bind fun a => (cnt v (wd (nd ar n).ws 3)).bind fun b => run ar (k + 1) (.times n (nd ar n).body v a b) st
            else if wd (nd ar n).ws 0 = wUse then (nd ar n).use.bind fun d => run ar (k + 1) (.times n (nd ar d).body noNums 1 1) st
            else some (step (nd ar n) v st)) = some q := by
          intro q hq
          split
          · next e =>
            rw [if_pos e] at hq
            cases hc : cnt v (wd (nd ar n).ws 1) with
            | none => rw [hc] at hq; cases hq
            | some c => rw [hc] at hq; exact ih _ _ _ hq
          · next e =>
            rw [if_neg e] at hq
            split
            · next e2 =>
              rw [if_pos e2] at hq
              cases hc : cnt v (wd (nd ar n).ws 2) with
              | none => rw [hc] at hq; cases hq
              | some a =>
                cases hc' : cnt v (wd (nd ar n).ws 3) with
                | none => rw [hc, hc'] at hq; cases hq
                | some b => rw [hc, hc'] at hq; exact ih _ _ _ hq
            · next e2 =>
              rw [if_neg e2] at hq
              split
              · next e3 =>
                rw [if_pos e3] at hq
                cases hc : (nd ar n).use with
                | none => rw [hc] at hq; cases hq
                | some d => rw [hc] at hq; exact ih _ _ _ hq
              · next e3 => rw [if_neg e3] at hq; exact hq
        rw [run] at h ⊢
        split at h
        · cases h
        · next e hq => rw [key _ hq]; exact h
        · next st' hq => rw [key _ hq]; exact ih _ _ _ h
    | times n body v a b =>
      rw [run] at h ⊢
      split at h
      · exact h
      · exact ih _ _ _ h
    | loop n body v a b =>
      rw [run] at h ⊢
      split at h
      · next hab =>
        rw [if_pos hab]
        split at h
        · exact h
        · next st' hst =>
          split at h
          · cases h
          · next e hq => simp only [ih _ _ _ hq]; exact h
          · next st'' hq => simp only [ih _ _ _ hq]; exact ih _ _ _ h
      · next hab => rw [if_neg hab]; exact h
theorem run_mono {ar : List Nd} {k k' : Nat} (hk : k ≤ k') {t : Task} {st : PSt} {r : Except Err PSt} (h : run ar k t st = some r) : run ar k' t st = some r := by
  induction hk with
  | refl => exact h
  | step _ ih => exact run_mono1 ar _ _ _ _ ih

theorem step_turns {n : Nd} {v : Nums} {st st' : PSt} (h : step n v st = .ok st') : st'.turns = st.turns := by
  unfold step at h
  dsimp only at h
  split at h
  · cases h
  · split at h
    · cases h
    · obtain rfl := Except.ok.inj h; rfl
theorem turn_turns {a : Nat} {st st' : PSt} (h : turn a st = .ok st') : st'.turns = st.turns + 1 ∧ st.turns ≠ 65536 := by
  unfold turn at h
  split at h
  · cases h
  · next e => obtain rfl := Except.ok.inj h; exact ⟨rfl, e⟩

theorem run_turns (ar : List Nd) : ∀ (k : Nat) (t : Task) (st st' : PSt), st.turns ≤ 65536 → run ar k t st = some (.ok st') → st.turns ≤ st'.turns ∧ st'.turns ≤ 65536 := by
  intro k
  induction k with
  | zero => intro t st st' _ h; simp [run] at h
  | succ k ih =>
    intro t st st' h0 h
    cases t with
    | seq l v =>
      cases l with
      | nil => simp only [run] at h; obtain rfl := Except.ok.inj (Option.some.inj h); omega
      | cons n l =>
        rw [run] at h
        split at h
        · cases h
        · cases h
        · next st1 hq =>
          have h1 : st.turns ≤ st1.turns ∧ st1.turns ≤ 65536 := by
            split at hq
            · cases hc : cnt v (wd (nd ar n).ws 1) with
              | none => rw [hc] at hq; cases hq
              | some c => rw [hc] at hq; exact ih _ _ _ h0 hq
            · split at hq
              · cases hc : cnt v (wd (nd ar n).ws 2) with
                | none => rw [hc] at hq; cases hq
                | some a =>
                  cases hc' : cnt v (wd (nd ar n).ws 3) with
                  | none => rw [hc, hc'] at hq; cases hq
                  | some b => rw [hc, hc'] at hq; exact ih _ _ _ h0 hq
              · split at hq
                · cases hc : (nd ar n).use with
                  | none => rw [hc] at hq; cases hq
                  | some d => rw [hc] at hq; exact ih _ _ _ h0 hq
                · have := step_turns (Option.some.inj hq); omega
          have h2 := ih _ _ _ h1.2 h
          omega
    | times n body v a b =>
      rw [run] at h
      split at h
      · cases h
      · next st1 hq =>
        have h1 := turn_turns hq
        have h2 := ih _ _ _ (by omega) h
        omega
    | loop n body v a b =>
      rw [run] at h
      split at h
      · split at h
        · cases h
        · next st1 hq =>
          have h1 := turn_turns hq
          split at h
          · cases h
          · cases h
          · next st2 hq2 =>
            have h2 := ih _ _ _ (by omega) hq2
            have h3 := ih _ _ _ h2.2 h
            omega
      · obtain rfl := Except.ok.inj (Option.some.inj h); omega

/-- a list of nodes that may stand in the body of i ends -/
def EndsSeq (ar : List Nd) (S : Nat → List UInt8) (T : Nat) : Prop := ∀ (i : Nat) (l : List Nat) (v : Nums) (st : PSt), i < ar.length → (∀ n ∈ l, n ∈ (nd ar i).body) → (∀ c ∈ S i, isLet c = true → 0 ≤ v c.toNat) → (∀ c, v c ≤ 999999) → st.turns ≤ 65536 → 65536 ≤ st.turns + T → ∃ k r, run ar k (.seq l v) st = some r
def EndsLoop (ar : List Nd) (S : Nat → List UInt8) (T : Nat) : Prop := ∀ (n d : Nat) (v : Nums) (a b : Int) (st : PSt), d < ar.length → (∀ c ∈ S d, isLet c = true → 0 ≤ v c.toNat ∨ c = (nd ar n).letter) → (∀ c, v c ≤ 999999) → 0 ≤ a → b ≤ 999999 → st.turns ≤ 65536 → 65536 ≤ st.turns + T → ∃ k r, run ar k (.loop n (nd ar d).body v a b) st = some r

theorem isLet_ne {c : UInt8} (h : isLet c = true) : c.toNat ≠ 0 := by
  simp only [isLet, Bool.and_eq_true, decide_eq_true_eq] at h
  omega

theorem ends_loop {ar : List Nd} {S : Nat → List UInt8} (T : Nat) (hP : ∀ T', T' < T → EndsSeq ar S T' ∧ EndsLoop ar S T') : EndsLoop ar S T := by
  intro n d v a b st hd hS hv ha hb ht hT
  by_cases hab : a ≤ b
  · cases htn : turn (nd ar n).at_ st with
    | error e => exact ⟨1, .error e, by rw [run, if_pos hab, htn]⟩
    | ok st1 =>
      have h1 := turn_turns htn
      obtain ⟨T', rfl⟩ : ∃ m, T = m + 1 := ⟨T - 1, by omega⟩
      obtain ⟨hseq, hloop⟩ := hP T' (by omega)
      obtain ⟨k1, r1, hr1⟩ := hseq d (nd ar d).body (if (nd ar n).letter.toNat ≠ 0 then upd v (nd ar n).letter.toNat a else v) st1 hd (fun _ h => h) (fun c hc hl => by
          have hz := isLet_ne hl
          rcases hS c hc hl with h | h
          · split
            · unfold upd; split
              · exact ha
              · exact h
            · exact h
          · rw [if_pos (by rw [← h]; exact hz)]
            unfold upd; rw [if_pos (by rw [h])]; exact ha) (fun c => by
          split
          · unfold upd; split
            · omega
            · exact hv c
          · exact hv c) (by omega) (by omega)
      cases r1 with
      | error e => exact ⟨k1 + 1, .error e, by rw [run, if_pos hab, htn]; simp only [hr1]⟩
      | ok st2 =>
        have h2 := run_turns ar _ _ _ _ (by omega) hr1
        obtain ⟨k2, r2, hr2⟩ := hloop n d v (a + 1) b st2 hd hS hv (by omega) hb (by omega) (by omega)
        refine ⟨max k1 k2 + 1, r2, ?_⟩
        rw [run, if_pos hab, htn]
        simp only [run_mono (Nat.le_max_left k1 k2) hr1]
        exact run_mono (Nat.le_max_right k1 k2) hr2
  · exact ⟨1, .ok st, by rw [run, if_neg hab]⟩

theorem ends_times {ar : List Nd} {S : Nat → List UInt8} (T : Nat) (hP : ∀ T', T' < T → EndsLoop ar S T') (n d : Nat) (v : Nums) (a b : Int) (st : PSt) (hd : d < ar.length) (hS : ∀ c ∈ S d, isLet c = true → 0 ≤ v c.toNat ∨ c = (nd ar n).letter) (hv : ∀ c, v c ≤ 999999) (ha : 0 ≤ a) (hb : b ≤ 999999) (ht : st.turns ≤ 65536) (hT : 65536 ≤ st.turns + T) :
    ∃ k r, run ar k (.times n (nd ar d).body v a b) st = some r := by
  cases htn : turn (nd ar n).at_ st with
  | error e => exact ⟨1, .error e, by rw [run, htn]⟩
  | ok st1 =>
    have h1 := turn_turns htn
    obtain ⟨T', rfl⟩ : ∃ m, T = m + 1 := ⟨T - 1, by omega⟩
    obtain ⟨k, r, hr⟩ := hP T' (by omega) n d v a b st1 hd hS hv ha hb (by omega) (by omega)
    exact ⟨k + 1, r, by rw [run, htn]; exact hr⟩

theorem noNums_le (c : Nat) : noNums c ≤ 999999 := by unfold noNums; omega

/-- one node ends -/
theorem ends_one {ar : List Nd} {S : Nat → List UInt8} (G : GoodAr ar) (hS : Scoped ar S) (T : Nat) (hP : ∀ T', T' < T → EndsLoop ar S T') (i n : Nat) (v : Nums) (st : PSt) (hi : i < ar.length) (hn : n ∈ (nd ar i).body) (hv0 : ∀ c ∈ S i, isLet c = true → 0 ≤ v c.toNat) (hv : ∀ c, v c ≤ 999999) (ht : st.turns ≤ 65536) (hT : 65536 ≤ st.turns + T) :
    ∃ k q, ∀ k', k ≤ k' → (if wd (nd ar n).ws 0 = wRepeat then (cnt v (wd (nd ar n).ws 1)).bind fun c => run ar k' (.times n (nd ar n).body v 1 c) st
            else if wd (nd ar n).ws 0 = wFor then (cnt v (wd (nd ar n).ws 2)).bind fun a => (cnt v (wd (nd ar n).ws 3)).bind fun b => run ar k' (.times n (nd ar n).body v a b) st
            else if wd (nd ar n).ws 0 = wUse then (nd ar n).use.bind fun d => run ar k' (.times n (nd ar d).body noNums 1 1) st
            else some (step (nd ar n) v st)) = some q := by
  obtain ⟨hnlt, hk⟩ := G.body i hi n hn
  by_cases e1 : wd (nd ar n).ws 0 = wRepeat
  · obtain ⟨c, hc⟩ := (hS.rep i hi n hn e1).cnt v hv hv0
    have hr := cnt_range hc
    obtain ⟨k, q, hq⟩ := ends_times T hP n n v 1 c st hnlt (fun x hx hl => (hS.blk i hi n hn (.inl e1) x hx).imp (fun h => hv0 x h hl) id) hv (by omega) (by omega) ht hT
    refine ⟨k, q, fun k' hk' => ?_⟩
    rw [if_pos e1, hc]
    exact run_mono hk' hq
  by_cases e2 : wd (nd ar n).ws 0 = wFor
  · obtain ⟨hwa, hwb⟩ := hS.for_ i hi n hn e2
    obtain ⟨a, ha⟩ := hwa.cnt v hv hv0
    obtain ⟨b, hb⟩ := hwb.cnt v hv hv0
    have hra := cnt_range ha
    have hrb := cnt_range hb
    obtain ⟨k, q, hq⟩ := ends_times T hP n n v a b st hnlt (fun x hx hl => (hS.blk i hi n hn (.inr e2) x hx).imp (fun h => hv0 x h hl) id) hv (by omega) (by omega) ht hT
    refine ⟨k, q, fun k' hk' => ?_⟩
    rw [if_neg e1, if_pos e2, ha, hb]
    exact run_mono hk' hq
  by_cases e3 : wd (nd ar n).ws 0 = wUse
  · obtain ⟨d, hd⟩ := hk.use e3
    have hu := hS.use i hi n hn e3 d hd
    obtain ⟨k, q, hq⟩ := ends_times T hP n d noNums 1 1 st (G.uselt n hnlt d hd) (fun x hx => by rw [hu] at hx; cases hx) noNums_le (by omega) (by omega) ht hT
    refine ⟨k, q, fun k' hk' => ?_⟩
    rw [if_neg e1, if_neg e2, if_pos e3, hd]
    exact run_mono hk' hq
  · exact ⟨0, step (nd ar n) v st, fun k' _ => by rw [if_neg e1, if_neg e2, if_neg e3]⟩

theorem one_turns {ar : List Nd} {n k : Nat} {v : Nums} {st st1 : PSt} (h0 : st.turns ≤ 65536) (hq : (if wd (nd ar n).ws 0 = wRepeat then (cnt v (wd (nd ar n).ws 1)).bind fun c => run ar k (.times n (nd ar n).body v 1 c) st
            else if wd (nd ar n).ws 0 = wFor then (cnt v (wd (nd ar n).ws 2)).bind fun a => (cnt v (wd (nd ar n).ws 3)).bind fun b => run ar k (.times n (nd ar n).body v a b) st
            else if wd (nd ar n).ws 0 = wUse then (nd ar n).use.bind fun d => run ar k (.times n (nd ar d).body noNums 1 1) st
            else some (step (nd ar n) v st)) = some (.ok st1)) : st.turns ≤ st1.turns ∧ st1.turns ≤ 65536 := by
  have h := run_turns ar (k + 1 + 1) (.seq [n] v) st st1 h0
  refine h ?_
  rw [run]
  have e : ∀ x, (if wd (nd ar n).ws 0 = wRepeat then (cnt v (wd (nd ar n).ws 1)).bind fun c => run ar k (.times n (nd ar n).body v 1 c) st
            else if wd (nd ar n).ws 0 = wFor then (cnt v (wd (nd ar n).ws 2)).bind fun a => (cnt v (wd (nd ar n).ws 3)).bind fun b => run ar k (.times n (nd ar n).body v a b) st
            else if wd (nd ar n).ws 0 = wUse then (nd ar n).use.bind fun d => run ar k (.times n (nd ar d).body noNums 1 1) st
            else some (step (nd ar n) v st)) = some x → (if wd (nd ar n).ws 0 = wRepeat then (cnt v (wd (nd ar n).ws 1)).bind fun c => run ar (k + 1) (.times n (nd ar n).body v 1 c) st
            else if wd (nd ar n).ws 0 = wFor then (cnt v (wd (nd ar n).ws 2)).bind fun a => (cnt v (wd (nd ar n).ws 3)).bind fun b => run ar (k + 1) (.times n (nd ar n).body v a b) st
            else if wd (nd ar n).ws 0 = wUse then (nd ar n).use.bind fun d => run ar (k + 1) (.times n (nd ar d).body noNums 1 1) st
            else some (step (nd ar n) v st)) = some x := by
    intro x hx
    split
    · next e => rw [if_pos e] at hx; obtain ⟨c, hc, h⟩ := Option.bind_eq_some_iff.1 hx; rw [hc]; exact run_mono1 _ _ _ _ _ h
    · next e =>
      rw [if_neg e] at hx
      split
      · next e2 =>
        rw [if_pos e2] at hx
        obtain ⟨c, hc, h⟩ := Option.bind_eq_some_iff.1 hx
        obtain ⟨c', hc', h⟩ := Option.bind_eq_some_iff.1 h
        rw [hc, Option.bind_some, hc']; exact run_mono1 _ _ _ _ _ h
      · next e2 =>
        rw [if_neg e2] at hx
        split
        · next e3 => rw [if_pos e3] at hx; obtain ⟨c, hc, h⟩ := Option.bind_eq_some_iff.1 hx; rw [hc]; exact run_mono1 _ _ _ _ _ h
        · next e3 => rw [if_neg e3] at hx; exact hx
  rw [e _ hq]
  simp only [run]

theorem ends_seq {ar : List Nd} {S : Nat → List UInt8} (G : GoodAr ar) (hS : Scoped ar S) (T : Nat) (hP : ∀ T', T' < T → EndsLoop ar S T') : EndsSeq ar S T := by
  intro i l
  induction l with
  | nil => intro v st _ _ _ _ _ _; exact ⟨1, .ok st, by rw [run]⟩
  | cons n l ih =>
    intro v st hi hl hv0 hv ht hT
    obtain ⟨k1, q, hq⟩ := ends_one G hS T hP i n v st hi (hl n (by simp)) hv0 hv ht hT
    cases q with
    | error e => exact ⟨k1 + 1, .error e, by rw [run, hq k1 (Nat.le_refl _)]⟩
    | ok st1 =>
      have h1 := one_turns ht (hq k1 (Nat.le_refl _))
      obtain ⟨k2, r, hr⟩ := ih v st1 hi (fun m hm => hl m (by simp [hm])) hv0 hv h1.2 (by omega)
      refine ⟨max k1 k2 + 1, r, ?_⟩
      rw [run, hq _ (Nat.le_max_left k1 k2)]
      exact run_mono (Nat.le_max_right k1 k2) hr

theorem ends_all {ar : List Nd} {S : Nat → List UInt8} (G : GoodAr ar) (hS : Scoped ar S) (T : Nat) : EndsSeq ar S T ∧ EndsLoop ar S T := by
  induction T using Nat.strongRecOn with
  | _ T ih => exact ⟨ends_seq G hS T fun T' h => (ih T' h).2, ends_loop T ih⟩
theorem ends {ar : List Nd} {S : Nat → List UInt8} (G : GoodAr ar) (hS : Scoped ar S) (h0 : S 0 = []) : ∃ k r, run ar k (.seq (nd ar 0).body noNums) {} = some r :=
  (ends_all G hS 65536).1 0 _ noNums {} G.pos (fun _ h => h) (fun c hc => by rw [h0] at hc; cases hc) noNums_le (by show 0 ≤ 65536; omega) (by show 65536 ≤ 0 + 65536; omega)
end Drl
