import Derived.Test.YtfbmlnkgjgnnhaaGreatDoorJP0
import Derived.KernelRfl

section
/-! what a drill's answer stays within; no program in sight -/
/-! what a drill's answer stays within; no program in sight -/
namespace Drl

theorem cutAt_free (c : UInt8) : ∀ (s : Str), ∀ t ∈ cutAt c s, ∀ x ∈ t, x ≠ c
  | [], t, ht, x, hx => by simp [cutAt] at ht; subst ht; cases hx
  | y :: r, t, ht, x, hx => by
    have ih := cutAt_free c r
    unfold cutAt at ht
    split at ht
    · rcases List.mem_cons.1 ht with rfl | ht
      · cases hx
      · exact ih t ht x hx
    · next hne =>
      split at ht
      · next w ws e =>
        rcases List.mem_cons.1 ht with rfl | ht
        · rcases List.mem_cons.1 hx with rfl | hx
          · exact hne
          · exact ih w (by rw [e]; simp) x hx
        · exact ih t (by rw [e]; simp [ht]) x hx
      · simp only [List.mem_singleton] at ht
        subst ht
        simp only [List.mem_singleton] at hx
        subst hx
        exact hne
theorem cutAt_count (c : UInt8) : ∀ (s : Str), (cutAt c s).length = 1 + s.count c
  | [] => by simp [cutAt]
  | y :: r => by
    have ih := cutAt_count c r
    unfold cutAt
    split
    · next h => subst h; simp [ih]; omega
    · next h =>
      split
      · next w ws e => rw [e] at ih; simp only [List.length_cons] at ih ⊢; rw [List.count_cons_of_ne (fun x => h x)]; exact ih
      · next e => exact absurd e (cutAt_ne c r)
theorem rawLines_count (s : Str) : (rawLines s).length ≤ 1 + s.count 10 := by
  unfold rawLines
  split
  · rw [List.length_dropLast, cutAt_count]; omega
  · rw [cutAt_count]; omega
theorem rawLines_no (s : Str) : ∀ t ∈ rawLines s, ∀ x ∈ t, x ≠ 10 := by
  intro t ht
  unfold rawLines at ht
  split at ht
  · exact cutAt_free 10 s t (List.dropLast_subset _ ht)
  · exact cutAt_free 10 s t ht
theorem trim_head : ∀ (s : Str), (trim s).headD 0 ≠ 32
  | [] => by simp [trim]
  | x :: r => by
    unfold trim
    rw [List.dropWhile_cons]
    split
    · exact trim_head r
    · next h => simpa using h
theorem trim_sub (s : Str) : ∀ x ∈ trim s, x ∈ s := fun _ hx => (List.dropWhile_sublist _).subset hx

/-- a line of a text behind the first -/
structure LnB (C : Nat) (x : Ln) : Prop where
  lo : 1 ≤ x.at_
  hi : x.at_ < C
  ok : says x.text = true
  sp : x.text.headD 0 ≠ 32
  nl : ∀ c ∈ x.text, c ≠ 10

theorem linesFrom_b : ∀ (l : List Str) (i : Nat), (∀ t ∈ l, ∀ x ∈ t, x ≠ 10) → (∀ x ∈ linesFrom i l, i ≤ x.at_ ∧ x.at_ < i + l.length ∧ says x.text = true ∧ x.text.headD 0 ≠ 32 ∧ ∀ c ∈ x.text, c ≠ 10) ∧ ∀ x ∈ (linesFrom i l).tail, i + 1 ≤ x.at_
  | [], i, _ => by simp [linesFrom]
  | s :: r, i, hm => by
    obtain ⟨h1, h2⟩ := linesFrom_b r (i + 1) (fun t ht => hm t (by simp [ht]))
    unfold linesFrom
    split
    · next hs =>
      refine ⟨fun x hx => ?_, fun x hx => (h1 x hx).1⟩
      rcases List.mem_cons.1 hx with rfl | hx
      · exact ⟨Nat.le_refl _, by simp [mkLn], hs, trim_head s, fun c hc => hm s (by simp) c (trim_sub s c hc)⟩
      · obtain ⟨a, b, c, d, e⟩ := h1 x hx
        exact ⟨by omega, by simp only [List.length_cons]; omega, c, d, e⟩
    · refine ⟨fun x hx => ?_, fun x hx => ?_⟩
      · obtain ⟨a, b, c, d, e⟩ := h1 x hx
        exact ⟨by omega, by simp only [List.length_cons]; omega, c, d, e⟩
      · have := h2 x hx; omega
theorem lines_b (s : Str) : ∀ x ∈ (lines s).tail, LnB (1 + s.count 10) x := by
  intro x hx
  obtain ⟨h1, h2⟩ := linesFrom_b (rawLines s) 0 (rawLines_no s)
  obtain ⟨_, b, c, d, e⟩ := h1 x (List.mem_of_mem_tail hx)
  have := rawLines_count s
  exact ⟨h2 x hx, by omega, c, d, e⟩

/-- a node is a line's -/
def Of (l : List Ln) (n : Nd) : Prop := (n.ws = [] ∧ n.at_ = 0) ∨ ∃ x ∈ l, n.at_ = x.at_ ∧ n.text = x.text ∧ n.ws = x.ws
def AllOf (l : List Ln) (ar : List Nd) : Prop := ∀ n ∈ ar, Of l n
theorem Of.mono {l l' : List Ln} {n : Nd} (h : Of l n) (hs : ∀ x ∈ l, x ∈ l') : Of l' n := by
  rcases h with h | ⟨x, hx, h⟩
  · exact .inl h
  · exact .inr ⟨x, hs x hx, h⟩
theorem AllOf.push {l : List Ln} {ar : List Nd} (h : AllOf l ar) {n : Nd} (hn : Of l n) : AllOf l (ar ++ [n]) := by
  intro m hm
  rcases List.mem_append.1 hm with hm | hm
  · exact h m hm
  · simp only [List.mem_singleton] at hm; subst hm; exact hn
theorem AllOf.add {l : List Ln} {ar : List Nd} (h : AllOf l ar) (i k : Nat) : AllOf l (addTo ar i k) := by
  intro m hm
  unfold addTo at hm
  obtain ⟨j, hj, rfl⟩ := List.mem_iff_getElem.1 hm
  rw [List.getElem_modify]
  have h0 : Of l (ar[j]'(by simpa using hj)) := h _ (List.getElem_mem _)
  split
  · exact h0
  · exact h0
theorem AllOf.step {l : List Ln} {st st' : RSt} {x : Ln} (h : AllOf l st.ar) (hx : x ∈ l) (hs : readStep st x = .ok st') : AllOf l st'.ar := by
  unfold readStep at hs
  dsimp only at hs
  repeat' split at hs
  all_goals first
    | (cases hs; done)
    | (obtain rfl := Except.ok.inj hs
       first
         | exact h.push (.inr ⟨x, hx, rfl, rfl, rfl⟩)
         | exact (h.push (.inr ⟨x, hx, rfl, rfl, rfl⟩)).add _ _)
theorem readStep_code {st : RSt} {x : Ln} {e : Err} (hs : readStep st x = .error e) : e.1 = x.at_ ∧ 290 ≤ e.2 ∧ e.2 ≤ 293 := by
  have hw : wrongE st x = 0 ∨ (290 ≤ wrongE st x ∧ wrongE st x ≤ 293) := by
    unfold wrongE
    split
    · repeat' split
      all_goals first
        | exact .inl rfl
        | exact .inr ⟨by decide, by decide⟩
    · split
      · repeat' split
        all_goals first
          | exact .inl rfl
          | exact .inr ⟨by decide, by decide⟩
      · split
        · repeat' split
          all_goals first
            | exact .inl rfl
            | exact .inr ⟨by decide, by decide⟩
        · repeat' split
          all_goals first
            | exact .inl rfl
            | exact .inr ⟨by decide, by decide⟩
  unfold readStep at hs
  dsimp only at hs
  split at hs
  · split at hs
    · obtain rfl := Except.error.inj hs; exact ⟨rfl, by simp, by simp⟩
    · cases hs
  · split at hs
    · next h => obtain rfl := Except.error.inj hs; exact ⟨rfl, hw.resolve_left h⟩
    · repeat' split at hs
      all_goals cases hs
theorem readFrom_b {l : List Ln} : ∀ (r : List Ln) (st : RSt), (∀ x ∈ r, x ∈ l) → AllOf l st.ar →
    (∀ st', readFrom st r = .ok st' → AllOf l st'.ar) ∧ ∀ e, readFrom st r = .error e → (290 ≤ e.2 ∧ e.2 ≤ 293) ∧ ((∃ x ∈ l, e.1 = x.at_) ∨ ∃ st', AllOf l st'.ar ∧ e.1 = (nd st'.ar (top st')).at_)
  | [], st, _, h => by
    refine ⟨fun st' hr => ?_, fun e hr => ?_⟩
    · simp only [readFrom] at hr
      split at hr
      · obtain rfl := Except.ok.inj hr; exact h
      · cases hr
    · simp only [readFrom] at hr
      split at hr
      · cases hr
      · obtain rfl := Except.error.inj hr; exact ⟨⟨by simp, by simp⟩, .inr ⟨st, h, rfl⟩⟩
  | x :: r, st, hx, h => by
    cases e : readStep st x with
    | error e' =>
      refine ⟨fun st' hr => ?_, fun e2 hr => ?_⟩
      · simp only [readFrom, e] at hr; cases hr
      · simp only [readFrom, e] at hr
        obtain rfl := Except.error.inj hr
        obtain ⟨a, b⟩ := readStep_code e
        exact ⟨b, .inl ⟨x, hx x (by simp), a⟩⟩
    | ok st1 =>
      have := readFrom_b r st1 (fun y hy => hx y (by simp [hy])) (h.step (hx x (by simp)) e)
      simp only [readFrom, e]
      exact this

/-! ### what holds along the way -/
def TaskOk (ar : List Nd) : Task → Prop
  | .seq l v => (∀ c, v c ≤ 999999) ∧ ∀ n ∈ l, n < ar.length ∧ Kind (nd ar n)
  | .times n body v _ b => ((n < ar.length ∧ Kind (nd ar n)) ∧ (∀ c, v c ≤ 999999) ∧ b ≤ 999999) ∧ ∀ m ∈ body, m < ar.length ∧ Kind (nd ar m)
  | .loop n body v _ b => ((n < ar.length ∧ Kind (nd ar n)) ∧ (∀ c, v c ≤ 999999) ∧ b ≤ 999999) ∧ ∀ m ∈ body, m < ar.length ∧ Kind (nd ar m)
def Ends_ (I : PSt → Prop) (Q : Err → Prop) : Except Err PSt → Prop
  | .ok st => I st
  | .error e => Q e
theorem run_inv {ar : List Nd} (G : GoodAr ar) {I : PSt → Prop} {Q : Err → Prop} (hT : ∀ n st, n < ar.length → Kind (nd ar n) → I st → Ends_ I Q (turn (nd ar n).at_ st)) (hS : ∀ n v st, (∀ c, v c ≤ 999999) → n < ar.length → Kind (nd ar n) → I st → Ends_ I Q (step (nd ar n) v st)) :
    ∀ (k : Nat) (t : Task) (st : PSt) (r : Except Err PSt), TaskOk ar t → I st → run ar k t st = some r → Ends_ I Q r
  | 0, _, _, _, _, _, h => by simp [run] at h
  | k + 1, .seq [] v, st, r, _, hI, h => by
    simp only [run] at h
    obtain rfl := Option.some.inj h
    exact hI
  | k + 1, .seq (n :: l) v, st, r, ht, hI, h => by
    have ih := run_inv G hT hS k
    obtain ⟨hn, hK⟩ := ht.2 n (by simp)
    have hv := ht.1
    have hb : ∀ d, d < ar.length → ∀ m ∈ (nd ar d).body, m < ar.length ∧ Kind (nd ar m) := G.body
    have key : ∀ q, (if wd (nd ar n).ws 0 = wRepeat then (cnt v (wd (nd ar n).ws 1)).bind fun c => run ar k (.times n (nd ar n).body v 1 c) st
      else if wd (nd ar n).ws 0 = wFor then (cnt v (wd (nd ar n).ws 2)).bind fun a => (cnt v (wd (nd ar n).ws 3)).bind fun b => run ar k (.times n (nd ar n).body v a b) st
      else if wd (nd ar n).ws 0 = wUse then (nd ar n).use.bind fun d => run ar k (.times n (nd ar d).body noNums 1 1) st
      else some (step (nd ar n) v st)) = some q → Ends_ I Q q := by
      intro q hq
      split at hq
      · obtain ⟨c, hc, h2⟩ := Option.bind_eq_some_iff.1 hq
        exact ih (.times n (nd ar n).body v 1 c) st q ⟨⟨⟨hn, hK⟩, hv, (cnt_range hc).2⟩, hb n hn⟩ hI h2
      · split at hq
        · obtain ⟨a, _, h2⟩ := Option.bind_eq_some_iff.1 hq
          obtain ⟨b, hc, h3⟩ := Option.bind_eq_some_iff.1 h2
          exact ih (.times n (nd ar n).body v a b) st q ⟨⟨⟨hn, hK⟩, hv, (cnt_range hc).2⟩, hb n hn⟩ hI h3
        · split at hq
          · obtain ⟨d, hd, h2⟩ := Option.bind_eq_some_iff.1 hq
            exact ih (.times n (nd ar d).body noNums 1 1) st q ⟨⟨⟨hn, hK⟩, noNums_le, by decide⟩, hb d (G.uselt n hn d hd)⟩ hI h2
          · obtain rfl := Option.some.inj hq
            exact hS n v st hv hn hK hI
    simp only [run] at h
    split at h
    · cases h
    · next e hq => obtain rfl := Option.some.inj h; exact key _ hq
    · next st' hq => exact ih (.seq l v) st' r ⟨hv, fun m hm => ht.2 m (List.mem_cons_of_mem _ hm)⟩ (key _ hq) h
  | k + 1, .times n body v a b, st, r, ht, hI, h => by
    have ih := run_inv G hT hS k
    have h1 := hT n st ht.1.1.1 ht.1.1.2 hI
    simp only [run] at h
    split at h
    · next e hq => obtain rfl := Option.some.inj h; rw [hq] at h1; exact h1
    · next st' hq => rw [hq] at h1; exact ih (.loop n body v a b) st' r ht h1 h
  | k + 1, .loop n body v a b, st, r, ht, hI, h => by
    have ih := run_inv G hT hS k
    have h1 := hT n st ht.1.1.1 ht.1.1.2 hI
    simp only [run] at h
    split at h
    · next hab =>
      have hv2 : ∀ c, (if (nd ar n).letter.toNat ≠ 0 then upd v (nd ar n).letter.toNat a else v) c ≤ 999999 := by
        intro c
        split
        · unfold upd
          split
          · have := ht.1.2.2; omega
          · exact ht.1.2.1 c
        · exact ht.1.2.1 c
      split at h
      · next e hq => obtain rfl := Option.some.inj h; rw [hq] at h1; exact h1
      · next st' hq =>
        rw [hq] at h1
        split at h
        · cases h
        · next e hq2 => obtain rfl := Option.some.inj h; exact ih (.seq body _) st' _ ⟨hv2, ht.2⟩ h1 hq2
        · next st2 hq2 => exact ih (.loop n body v (a + 1) b) st2 r ht (ih (.seq body _) st' _ ⟨hv2, ht.2⟩ h1 hq2) h
    · obtain rfl := Option.some.inj h; exact hI

/-! ### the bounds -/
structure DrB (C : Nat) (x : Dr) : Prop where
  lo : 1 ≤ x.line
  hi : x.line < C
  first : x.want = false → x.text ≠ [] ∧ x.text.headD 0 ≠ 32 ∧ x.text.headD 0 ≠ 35
  nl : ∀ c ∈ x.text, c ≠ 10
  len : x.text.length ≤ 393216
structure StB (C : Nat) (st : PSt) : Prop where
  len : st.steps.length ≤ 4096
  all : ∀ x ∈ st.steps, DrB C x
  said : st.said = false → st.steps = []
  saidNe : st.said = true → st.steps ≠ []
  want : ∀ x r, st.steps = x :: r → x.want = false

theorem dec_dig (n : Nat) : ∀ c ∈ Go.Lib.decDigits n, 48 ≤ c.toNat ∧ c.toNat ≤ 57 := by
  have := isDig_dec n
  rw [List.all_eq_true] at this
  intro c hc
  simpa [isDig] using this c hc
theorem filled_nl (v : Nums) : ∀ (s : Str), (∀ c ∈ s, c ≠ 10) → ∀ c ∈ filled v s, c ≠ 10
  | [], _, c, hc => by simp [filled] at hc
  | [d], h, c, hc => by simp only [filled, List.mem_singleton] at hc; subst hc; exact h _ (by simp)
  | d :: e :: r, h, c, hc => by
    unfold filled at hc
    split at hc
    · rcases List.mem_append.1 hc with hc | hc
      · have := dec_dig _ c hc
        rintro rfl
        exact absurd this (by decide)
      · exact filled_nl v r (fun x hx => h x (by simp [hx])) c hc
    · rcases List.mem_cons.1 hc with rfl | hc
      · exact h _ (by simp)
      · exact filled_nl v (e :: r) (fun x hx => h x (by simp only [List.mem_cons] at hx ⊢; exact .inr hx)) c hc
theorem filled_head (v : Nums) (s : Str) (h : s ≠ []) (h1 : s.headD 0 ≠ 32) (h2 : s.headD 0 ≠ 35) : filled v s ≠ [] ∧ (filled v s).headD 0 ≠ 32 ∧ (filled v s).headD 0 ≠ 35 := by
  match s, h with
  | [d], _ => exact ⟨by simp [filled], h1, h2⟩
  | d :: e :: r, _ =>
    unfold filled
    split
    · have hp := dec_pos (v e.toNat).toNat
      cases hd : Go.Lib.decDigits (v e.toNat).toNat with
      | nil => rw [hd] at hp; simp at hp
      | cons a l =>
        have := dec_dig (v e.toNat).toNat a (by rw [hd]; simp)
        refine ⟨by simp, ?_, ?_⟩
        · simp only [List.cons_append, List.headD_cons]; rintro rfl; exact absurd this (by decide)
        · simp only [List.cons_append, List.headD_cons]; rintro rfl; exact absurd this (by decide)
    · exact ⟨by simp, h1, h2⟩
theorem filled_length (v : Nums) (hv : ∀ c, v c ≤ 999999) : ∀ s : Str, (filled v s).length ≤ 6 * s.length
  | [] => by simp [filled]
  | [d] => by simp [filled]
  | d :: e :: r => by
    unfold filled
    split
    · have h1 := decDigits_len 5 (v e.toNat).toNat (by have := hv e.toNat; omega)
      have h2 := filled_length v hv r
      simp only [List.length_append, List.length_cons]
      omega
    · have h2 := filled_length v hv (e :: r)
      simp only [List.length_cons] at h2 ⊢
      omega
theorem says_head {t : Str} (h : says t = true) : t ≠ [] ∧ t.headD 0 ≠ 35 := by
  match t, h with
  | c :: r, h =>
    refine ⟨by simp, ?_⟩
    simp only [says, Bool.not_eq_true', decide_eq_false_iff_not] at h
    simp only [List.headD_cons]
    rintro rfl
    exact h rfl
theorem trimPrefix_mem (s p : Str) : ∀ c ∈ Go.Lib.trimPrefix s p, c ∈ s := by
  intro c hc
  unfold Go.Lib.trimPrefix at hc
  split at hc
  · exact List.mem_of_mem_drop hc
  · exact hc
theorem drOf_b {C : Nat} {l : List Ln} (hl : ∀ x ∈ l, LnB C x) {n : Nd} (ho : Of l n) (hk : Kind n) (v : Nums) (hv : ∀ c, v c ≤ 999999) : DrB C (drOf n v) := by
  rcases ho with ho | ⟨x, hx, h1, h2, h3⟩
  · have := hk.ws; rw [ho.1] at this; simp at this
  have hb := hl x hx
  have hs := says_head hb.ok
  unfold drOf
  split
  · exact ⟨by rw [h1]; exact hb.lo, by rw [h1]; exact hb.hi, fun h => by simp at h, filled_nl v _ fun c hc => by
      rw [h2] at hc
      exact hb.nl c (List.mem_of_mem_drop (trimPrefix_mem _ _ c hc)), by
      have h1 := filled_length v hv (Go.Lib.trimPrefix (n.text.drop 6) [32])
      have h2 : (Go.Lib.trimPrefix (n.text.drop 6) [32]).length ≤ (n.text.drop 6).length := by
        unfold Go.Lib.trimPrefix
        split
        · rw [List.length_drop]; omega
        · exact Nat.le_refl _
      have h3 := hk.text
      rw [List.length_drop] at h2
      dsimp only
      omega⟩
  · exact ⟨by rw [h1]; exact hb.lo, by rw [h1]; exact hb.hi, fun _ => by rw [h2]; exact filled_head v _ hs.1 hb.sp hs.2, filled_nl v _ fun c hc => by
      rw [h2] at hc
      exact hb.nl c hc, by
      have h1 := filled_length v hv n.text
      have h3 := hk.text
      dsimp only
      omega⟩

/-- what every answer stays within -/
def Bounds (text : Str) : Except Err (List Dr × Nat) → Prop
  | .error e => (290 ≤ e.2 ∧ e.2 ≤ 296 ∧ e.1 ≤ text.length) ∨ (e.2 = 150 ∧ e.1 = 65536 ∧ 65536 < text.length)
  | .ok a => a.1.length ≤ 4096 ∧ 1 ≤ a.2 ∧ a.2 ≤ 64 ∧ text.length ≤ 65536 ∧ (∀ x ∈ a.1, DrB (1 + text.count 10) x) ∧ ∀ x r, a.1 = x :: r → x.want = false

theorem getD_mem {ar : List Nd} {i : Nat} (h : i < ar.length) : nd ar i ∈ ar := by
  unfold nd
  rw [List.getD_eq_getElem?_getD, List.getElem?_eq_getElem h]
  exact List.getElem_mem _
theorem of_nd {l : List Ln} {ar : List Nd} (h : AllOf l ar) (i : Nat) : Of l (nd ar i) := by
  by_cases hi : i < ar.length
  · exact h _ (getD_mem hi)
  · left
    unfold nd
    rw [List.getD_eq_getElem?_getD, List.getElem?_eq_none (by omega)]
    exact ⟨rfl, rfl⟩
theorem of_at {L : Nat} {l : List Ln} (hl : ∀ x ∈ l, x.at_ < L) {n : Nd} (h : Of l n) : n.at_ ≤ L := by
  rcases h with ⟨_, h⟩ | ⟨x, hx, h, _⟩
  · omega
  · have := hl x hx; omega
theorem step_b {C L : Nat} {l : List Ln} (hl : ∀ x ∈ l, LnB C x) (hL : ∀ x ∈ l, x.at_ < L) {n : Nd} (ho : Of l n) (hk : Kind n) (v : Nums) (hv : ∀ c, v c ≤ 999999) {st : PSt} (h : StB C st) :
    Ends_ (StB C) (fun e => 290 ≤ e.2 ∧ e.2 ≤ 296 ∧ e.1 ≤ L) (step n v st) := by
  unfold step
  dsimp only
  split
  · exact ⟨by simp, by simp, of_at hL ho⟩
  · next h1 =>
    split
    · exact ⟨by simp, by simp, of_at hL ho⟩
    · next h2 =>
      have hd := drOf_b hl ho hk v hv
      refine ⟨by simp only [List.length_append, List.length_singleton]; have := h.len; omega, fun x hx => ?_, fun hx => by simp at hx, fun _ => by simp, fun x r hx => ?_⟩
      · rcases List.mem_append.1 hx with hx | hx
        · exact h.all x hx
        · simp only [List.mem_singleton] at hx; subst hx; exact hd
      · dsimp only at hx
        cases hs : st.steps with
        | nil =>
          rw [hs] at hx
          simp only [List.nil_append, List.cons.injEq] at hx
          have hw := hx.1
          cases hsaid : st.said with
          | false =>
            rw [← hw]
            cases hwant : (drOf n v).want with
            | false => rfl
            | true => exact absurd ⟨hwant, hsaid⟩ h1
          | true => exact absurd hs (h.saidNe hsaid)
        | cons y t =>
          rw [hs] at hx
          simp only [List.cons_append, List.cons.injEq] at hx
          rw [← hx.1]
          exact h.want y t hs
theorem turn_b {C L : Nat} {l : List Ln} (hL : ∀ x ∈ l, x.at_ < L) {n : Nd} (ho : Of l n) {st : PSt} (h : StB C st) :
    Ends_ (StB C) (fun e => 290 ≤ e.2 ∧ e.2 ≤ 296 ∧ e.1 ≤ L) (turn n.at_ st) := by
  unfold turn
  split
  · exact ⟨by simp, by simp, of_at hL ho⟩
  · exact ⟨h.len, h.all, h.said, h.saidNe, h.want⟩
theorem headB_n {l : List Ln} (h : headB l = true) : 1 ≤ (headN l).toNat ∧ (headN l).toNat ≤ 64 := by
  cases l with
  | nil => cases h
  | cons x r =>
    simp only [headB, Bool.and_eq_true, decide_eq_true_eq] at h
    obtain ⟨h1, h2, h3⟩ := h
    simp only [headN, if_pos h1]
    have h4 : numN (wd x.ws 1) ≤ 64 := by
      simp only [numB, Bool.and_eq_true, decide_eq_true_eq] at h2
      unfold numN
      rw [if_pos h2.1]
      exact h2.2
    omega
theorem bounds {k : Nat} {text : Str} {r : Except Err (List Dr × Nat)} (h : unroll k text = some r) : Bounds text r := by
  unfold unroll at h
  split at h
  · next h0 => obtain rfl := Option.some.inj h; exact .inr ⟨rfl, rfl, h0⟩
  · next h0 =>
    split at h
    · obtain rfl := Option.some.inj h; exact .inl ⟨by decide, by decide, Nat.zero_le _⟩
    · next h1 =>
      have hx : ∀ x ∈ (lines text).tail, LnOk text.length x := fun x hx => (lines_ok text).2 x (List.mem_of_mem_tail hx)
      have hat : ∀ x ∈ (lines text).tail, x.at_ < text.length := fun x h => (hx x h).at_
      obtain ⟨hb1, hb2⟩ := readFrom_b (l := (lines text).tail) (lines text).tail st0 (fun _ h => h) (fun n hn => by
        simp only [st0, List.mem_singleton] at hn; subst hn; exact .inl ⟨rfl, rfl⟩)
      split at h
      · next e he =>
        obtain rfl := Option.some.inj h
        obtain ⟨⟨a, b⟩, c⟩ := hb2 _ he
        refine .inl ⟨a, by omega, ?_⟩
        rcases c with ⟨x, hx, c⟩ | ⟨st', hst, c⟩
        · have := hat x hx; omega
        · rw [c]; exact of_at hat (of_nd hst _)
      · next st he =>
        have G := (read_ends (L := text.length) (by omega) hx he).1.good
        have hof := hb1 st he
        have hinv : ∀ r0, run st.ar k (.seq (nd st.ar 0).body noNums) {} = some r0 → Ends_ (StB (1 + text.count 10)) (fun e => 290 ≤ e.2 ∧ e.2 ≤ 296 ∧ e.1 ≤ text.length) r0 := fun r0 hr0 =>
          run_inv G (fun n s _ _ hI => turn_b hat (of_nd hof n) hI) (fun n v s hv _ hK hI => step_b (lines_b text) hat (of_nd hof n) hK v hv hI) k (.seq (nd st.ar 0).body noNums) _ _ ⟨noNums_le, fun n hn => G.body 0 G.pos n hn⟩ ⟨by decide, (fun x hx => by cases hx), (fun _ => rfl), (fun h => by cases h), (fun x r h => by cases h)⟩ hr0
        split at h
        · cases h
        · next e hr => obtain rfl := Option.some.inj h; exact .inl (hinv _ hr)
        · next st' hr =>
          obtain rfl := Option.some.inj h
          have hI := hinv _ hr
          have hn := headB_n (l := lines text) (by cases hq : headB (lines text) with | true => rfl | false => exact absurd hq h1)
          exact ⟨hI.len, hn.1, hn.2, by omega, hI.all, hI.want⟩
end Drl
end

section
/-! texts made of whole lines; going through without fuel; no program in sight -/
/-! texts made of whole lines; going through without fuel; no program in sight -/
namespace Drl

theorem cutAt_part (c : UInt8) (r : Str) : ∀ (u : Str), (∀ x ∈ u, x ≠ c) → cutAt c (u ++ c :: r) = u :: cutAt c r
  | [], _ => by simp [cutAt]
  | x :: u, h => by
    have ih := cutAt_part c r u (fun y hy => h y (by simp [hy]))
    have hx := h x (by simp)
    simp only [List.cons_append, cutAt, if_neg hx, ih]
theorem cutAt_whole (c : UInt8) : ∀ (u : Str), (∀ x ∈ u, x ≠ c) → cutAt c u = [u]
  | [], _ => rfl
  | x :: u, h => by
    have ih := cutAt_whole c u (fun y hy => h y (by simp [hy]))
    have hx := h x (by simp)
    simp only [cutAt, if_neg hx, ih]

/-- a text of whole lines -/
def joinNl : List Str → Str
  | [] => []
  | s :: r => s ++ 10 :: joinNl r
theorem joinNl_append : ∀ (a b : List Str), joinNl (a ++ b) = joinNl a ++ joinNl b
  | [], b => rfl
  | s :: r, b => by simp [joinNl, joinNl_append r b]
theorem cutAt_joinNl : ∀ (l : List Str), (∀ s ∈ l, ∀ c ∈ s, c ≠ 10) → cutAt 10 (joinNl l) = l ++ [[]]
  | [], _ => rfl
  | s :: r, h => by rw [joinNl, cutAt_part 10 _ s (h s (by simp)), cutAt_joinNl r (fun t ht => h t (by simp [ht]))]; rfl
theorem rawLines_joinNl (l : List Str) (h : ∀ s ∈ l, ∀ c ∈ s, c ≠ 10) : rawLines (joinNl l) = l := by
  have e := cutAt_joinNl l h
  unfold rawLines
  have h1 : (cutAt 10 (joinNl l)).getLast (cutAt_ne 10 (joinNl l)) = [] := by simp [e]
  rw [if_pos h1, e]
  simp
theorem lines_joinNl (l : List Str) (h : ∀ s ∈ l, ∀ c ∈ s, c ≠ 10) : lines (joinNl l) = linesFrom 0 l := by
  unfold lines; rw [rawLines_joinNl l h]

theorem words_two (u v : Str) (hu : ∀ x ∈ u, x ≠ 32) (hv : ∀ x ∈ v, x ≠ 32) : words (u ++ 32 :: v) = [u, v] := by
  unfold words; rw [cutAt_part 32 v u hu, cutAt_whole 32 v hv]
theorem words_one (u : Str) (hu : ∀ x ∈ u, x ≠ 32) : words u = [u] := cutAt_whole 32 u hu
theorem dec_no (n : Nat) (c : UInt8) (hc : c.toNat < 48) : ∀ x ∈ Go.Lib.decDigits n, x ≠ c := by
  intro x hx
  have := dec_dig n x hx
  rintro rfl
  omega
theorem countsB_dec (ar : List Nd) (opn : List Nat) (n : Nat) (h : n ≤ 1000) : countsB ar opn (Go.Lib.decDigits n) = true := by
  have hok := numOk_dec n (by omega)
  have hb : numB (Go.Lib.decDigits n) 1000 = true := by
    simp only [numB, hok, numVal_dec, Bool.true_and, decide_eq_true_eq]; omega
  unfold countsB
  split
  · next d c e =>
    have hd := dec_dig n d (by rw [e]; simp)
    rw [if_neg (by omega)]
    exact hb
  · exact hb
theorem cnt_dec (v : Nums) (n : Nat) (h : n ≤ 999999) : cnt v (Go.Lib.decDigits n) = some (n : Int) := by
  rw [cnt_num v _ (numOk_dec n h), numVal_dec]

/-! ### one line is read -/
theorem readStep_rep {st : RSt} {x : Ln} {w : Str} (h1 : x.text ≠ wEnd) (h2 : x.ws = [wRepeat, w]) (h3 : countsB st.ar st.opn w = true) :
    readStep st x = .ok { st with ar := addTo (st.ar ++ [{ at_ := x.at_, text := x.text, ws := x.ws }]) (top st) st.ar.length, opn := st.opn ++ [st.ar.length] } := by
  have hw : wd x.ws 0 = wRepeat := by rw [h2]; rfl
  have hw1 : wd x.ws 1 = w := by rw [h2]; rfl
  have hne : wrongE st x = 0 := by
    unfold wrongE
    rw [hw, if_neg (by decide), if_pos rfl, hw1, h3]
    simp [h2]
  unfold readStep
  simp only [if_neg h1, hne, hw]
  rfl
theorem readStep_plain {st : RSt} {x : Ln} (h1 : x.text ≠ wEnd) (h2 : wd x.ws 0 ≠ wDef) (h3 : wd x.ws 0 ≠ wRepeat) (h4 : wd x.ws 0 ≠ wFor) (h5 : wd x.ws 0 ≠ wUse) :
    readStep st x = .ok { st with ar := addTo (st.ar ++ [{ at_ := x.at_, text := x.text, ws := x.ws }]) (top st) st.ar.length } := by
  have hne : wrongE st x = 0 := by
    unfold wrongE
    rw [if_neg h2, if_neg h3, if_neg h4, if_neg h5]
  unfold readStep
  simp only [if_neg h1, hne, if_neg h2, if_neg h3, if_neg h4, if_neg h5]
  rfl
theorem readStep_end {st : RSt} {x : Ln} (h1 : x.text = wEnd) (h2 : top st ≠ 0) :
    readStep st x = .ok { ar := st.ar ++ [{ at_ := x.at_, text := x.text, ws := x.ws }], opn := st.opn.dropLast, names := if wd (nd st.ar (top st)).ws 0 = wDef then st.names ++ [(wd (nd st.ar (top st)).ws 1, top st)] else st.names } := by
  unfold readStep
  simp only [if_pos h1, if_neg h2]
theorem readFrom_cons {st st' : RSt} {x : Ln} {r : List Ln} (h : readStep st x = .ok st') : readFrom st (x :: r) = readFrom st' r := by
  simp only [readFrom, h]

/-! ### going through -/
def Runs (ar : List Nd) (t : Task) (st : PSt) (r : Except Err PSt) : Prop := ∃ k, run ar k t st = some r
theorem Runs.nil {ar : List Nd} {v : Nums} {st : PSt} : Runs ar (.seq [] v) st (.ok st) := ⟨1, rfl⟩
theorem Runs.det {ar : List Nd} {t : Task} {st : PSt} {r r' : Except Err PSt} (h : Runs ar t st r) (h' : Runs ar t st r') : r = r' := by
  obtain ⟨k, h⟩ := h
  obtain ⟨k', h'⟩ := h'
  have a := run_mono (Nat.le_max_left k k') h
  have b := run_mono (Nat.le_max_right k k') h'
  rw [a] at b
  exact Option.some.inj b
theorem Runs.cons_step {ar : List Nd} {n : Nat} {l : List Nat} {v : Nums} {st st' : PSt} {r : Except Err PSt} (h1 : wd (nd ar n).ws 0 ≠ wRepeat) (h2 : wd (nd ar n).ws 0 ≠ wFor) (h3 : wd (nd ar n).ws 0 ≠ wUse) (hs : step (nd ar n) v st = .ok st') (h : Runs ar (.seq l v) st' r) : Runs ar (.seq (n :: l) v) st r := by
  obtain ⟨k, h⟩ := h
  refine ⟨k + 1, ?_⟩
  simp only [run, if_neg h1, if_neg h2, if_neg h3, hs]
  exact h
theorem Runs.cons_bad {ar : List Nd} {n : Nat} {l : List Nat} {v : Nums} {st : PSt} {e : Err} (h1 : wd (nd ar n).ws 0 ≠ wRepeat) (h2 : wd (nd ar n).ws 0 ≠ wFor) (h3 : wd (nd ar n).ws 0 ≠ wUse) (hs : step (nd ar n) v st = .error e) : Runs ar (.seq (n :: l) v) st (.error e) := by
  refine ⟨1, ?_⟩
  simp only [run, if_neg h1, if_neg h2, if_neg h3, hs]
theorem Runs.cons_rep {ar : List Nd} {n : Nat} {l : List Nat} {v : Nums} {st st' : PSt} {r : Except Err PSt} {c : Int} (h1 : wd (nd ar n).ws 0 = wRepeat) (hc : cnt v (wd (nd ar n).ws 1) = some c) (hs : Runs ar (.times n (nd ar n).body v 1 c) st (.ok st')) (h : Runs ar (.seq l v) st' r) : Runs ar (.seq (n :: l) v) st r := by
  obtain ⟨k, h⟩ := h
  obtain ⟨k', hs⟩ := hs
  refine ⟨max k k' + 1, ?_⟩
  simp only [run, if_pos h1, hc, Option.bind_some, run_mono (Nat.le_max_right k k') hs]
  exact run_mono (Nat.le_max_left k k') h
theorem Runs.cons_rep_bad {ar : List Nd} {n : Nat} {l : List Nat} {v : Nums} {st : PSt} {e : Err} {c : Int} (h1 : wd (nd ar n).ws 0 = wRepeat) (hc : cnt v (wd (nd ar n).ws 1) = some c) (hs : Runs ar (.times n (nd ar n).body v 1 c) st (.error e)) : Runs ar (.seq (n :: l) v) st (.error e) := by
  obtain ⟨k, hs⟩ := hs
  refine ⟨k + 1, ?_⟩
  simp only [run, if_pos h1, hc, Option.bind_some, hs]
theorem Runs.times {ar : List Nd} {n : Nat} {body : List Nat} {v : Nums} {a b : Int} {st st' : PSt} {r : Except Err PSt} (ht : turn (nd ar n).at_ st = .ok st') (h : Runs ar (.loop n body v a b) st' r) : Runs ar (.times n body v a b) st r := by
  obtain ⟨k, h⟩ := h
  refine ⟨k + 1, ?_⟩
  simp only [run, ht]
  exact h
theorem Runs.times_bad {ar : List Nd} {n : Nat} {body : List Nat} {v : Nums} {a b : Int} {st : PSt} {e : Err} (ht : turn (nd ar n).at_ st = .error e) : Runs ar (.times n body v a b) st (.error e) := by
  refine ⟨1, ?_⟩
  simp only [run, ht]
theorem Runs.loop_done {ar : List Nd} {n : Nat} {body : List Nat} {v : Nums} {a b : Int} {st : PSt} (h : b < a) : Runs ar (.loop n body v a b) st (.ok st) := by
  refine ⟨1, ?_⟩
  simp only [run, if_neg (show ¬ a ≤ b by omega)]
theorem Runs.loop_turn {ar : List Nd} {n : Nat} {body : List Nat} {v : Nums} {a b : Int} {st : PSt} {e : Err} (h : a ≤ b) (ht : turn (nd ar n).at_ st = .error e) : Runs ar (.loop n body v a b) st (.error e) := by
  refine ⟨1, ?_⟩
  simp only [run, if_pos h, ht]
theorem Runs.loop_bad {ar : List Nd} {n : Nat} {body : List Nat} {v : Nums} {a b : Int} {st st1 : PSt} {e : Err} (h : a ≤ b) (ht : turn (nd ar n).at_ st = .ok st1) (hs : Runs ar (.seq body (if (nd ar n).letter.toNat ≠ 0 then upd v (nd ar n).letter.toNat a else v)) st1 (.error e)) : Runs ar (.loop n body v a b) st (.error e) := by
  obtain ⟨k, hs⟩ := hs
  refine ⟨k + 1, ?_⟩
  simp only [run, if_pos h, ht, hs]
theorem Runs.loop_ok {ar : List Nd} {n : Nat} {body : List Nat} {v : Nums} {a b : Int} {st st1 st2 : PSt} {r : Except Err PSt} (h : a ≤ b) (ht : turn (nd ar n).at_ st = .ok st1) (hs : Runs ar (.seq body (if (nd ar n).letter.toNat ≠ 0 then upd v (nd ar n).letter.toNat a else v)) st1 (.ok st2)) (hr : Runs ar (.loop n body v (a + 1) b) st2 r) : Runs ar (.loop n body v a b) st r := by
  obtain ⟨k, hr⟩ := hr
  obtain ⟨k', hs⟩ := hs
  refine ⟨max k k' + 1, ?_⟩
  simp only [run, if_pos h, ht, run_mono (Nat.le_max_right k k') hs]
  exact run_mono (Nat.le_max_left k k') hr

def ansOf (n : Nat) : Except Err PSt → Except Err (List Dr × Nat)
  | .error e => .error e
  | .ok s => .ok (s.steps, n)
/-- the answer, by its parts -/
theorem unroll_by {k : Nat} {text : Str} {r : Except Err (List Dr × Nat)} (h : unroll k text = some r) (h0 : text.length ≤ 65536) (h1 : headB (lines text) = true) {st : RSt} (h2 : readFrom st0 (lines text).tail = .ok st) {r' : Except Err PSt} (h3 : Runs st.ar (.seq (nd st.ar 0).body noNums) {} r') :
    r = ansOf (headN (lines text)).toNat r' := by
  unfold unroll at h
  rw [if_neg (by omega), if_neg (by rw [h1]; decide), h2] at h
  dsimp only at h
  split at h
  · cases h
  · next e hr =>
    obtain rfl := Runs.det ⟨k, hr⟩ h3
    exact (Option.some.inj h).symm
  · next s hr =>
    obtain rfl := Runs.det ⟨k, hr⟩ h3
    exact (Option.some.inj h).symm
end Drl
end

section
/-! the small drill of the law; no program in sight -/
/-! the small drill of the law; no program in sight -/
namespace Drl
/-- the law's small drill -/
def smallText : Str := ([99, 108, 105, 101, 110, 116, 115, 32, 50, 10, 35, 32, 97, 10, 100, 101, 102, 32, 99, 97, 108, 109, 10, 32, 114, 101, 112, 101, 97, 116, 32, 50, 10, 32, 32, 114, 111, 117, 110, 100, 10, 32, 32, 97, 108, 108, 10, 32, 101, 110, 100, 10].append [101, 110, 100, 10, 102, 111, 114, 32, 115, 32, 49, 32, 50, 10, 32, 116, 121, 112, 101, 32, 36, 115, 32, 120, 36, 115, 10, 32, 101, 120, 112, 101, 99, 116, 32, 111, 107, 32, 50, 10, 101, 110, 100, 10, 117, 115, 101, 32, 99, 97, 108, 109, 10])
def smallL : List Dr := [⟨9, [116, 121, 112, 101, 32, 49, 32, 120, 49], false⟩, ⟨10, [111, 107, 32, 50], true⟩, ⟨9, [116, 121, 112, 101, 32, 50, 32, 120, 50], false⟩, ⟨10, [111, 107, 32, 50], true⟩, ⟨4, [114, 111, 117, 110, 100], false⟩, ⟨5, [97, 108, 108], false⟩, ⟨4, [114, 111, 117, 110, 100], false⟩, ⟨5, [97, 108, 108], false⟩]
theorem small_answer : unroll 40 smallText = some (.ok (smallL, 2)) := by kernel_rfl
end Drl
end
