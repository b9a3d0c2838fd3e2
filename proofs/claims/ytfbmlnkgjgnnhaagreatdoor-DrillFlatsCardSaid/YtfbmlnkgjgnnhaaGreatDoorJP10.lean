import Derived.Test.YtfbmlnkgjgnnhaaGreatDoorJP0
import Derived.Test.YtfbmlnkgjgnnhaaGreatDoorJP17

section
/-! the document's own reading: lines by their numbers; no program in sight -/
/-! the document's own reading: lines by their numbers; no program in sight -/
namespace Drl

/-- what the reference's number answers -/
def rnum (s : Str) : Int := if numOk s then numVal s else -1
/-- what the reference's letter answers -/
def rlet (s : Str) : Int := if letterB s then ((s.headD 0).toNat : Int) - 97 else -1
/-- the kind of a line -/
def rkind (s : Str) : Nat :=
  if says s = false then 0
  else if wd (words s) 0 = wDef then 2
  else if wd (words s) 0 = wRepeat then 3
  else if wd (words s) 0 = wFor then 4
  else if wd (words s) 0 = wUse then 6
  else if wd (words s) 0 = wExpect then 7
  else if s = wEnd then 5 else 8
/-- only letters stand for something -/
def LetOnly (v : Nums) : Prop := ∀ c, (c < 97 ∨ 122 < c) → v c < 0

/-- a list of nodes is what the lines from a up to b are -/
inductive Lst (K : List Nat) (E : List Int) (ar : List Nd) : Nat → Nat → List Nat → Prop
  | nil (a : Nat) : Lst K E ar a a []
  | skip {a b : Nat} {l : List Nat} {k : Nat} : K[a]? = some k → k < 2 → Lst K E ar (a + 1) b l → Lst K E ar a b l
  | defn {a b : Nat} {l : List Nat} {e : Nat} : K[a]? = some 2 → E[a]? = some (e : Int) → a < e → e < b → Lst K E ar (e + 1) b l → Lst K E ar a b l
  | step {a b : Nat} {l : List Nat} {k n : Nat} : K[a]? = some k → 6 ≤ k → n < ar.length → 0 < n → (nd ar n).at_ = a → Lst K E ar (a + 1) b l → Lst K E ar a b (n :: l)
  | blk {a b : Nat} {l : List Nat} {k n e : Nat} : K[a]? = some k → k = 3 ∨ k = 4 → E[a]? = some (e : Int) → a < e → e < b → n < ar.length → 0 < n → (nd ar n).at_ = a → Lst K E ar (a + 1) e (nd ar n).body → Lst K E ar (e + 1) b l → Lst K E ar a b (n :: l)

theorem Lst.le {K : List Nat} {E : List Int} {ar : List Nd} {a b : Nat} {l : List Nat} (h : Lst K E ar a b l) : a ≤ b := by
  induction h with
  | nil a => exact Nat.le_refl _
  | skip _ _ _ ih => omega
  | defn _ _ _ _ _ ih => omega
  | step _ _ _ _ _ _ ih => omega
  | blk _ _ _ _ _ _ _ _ _ _ _ ih => omega
theorem Lst.append {K : List Nat} {E : List Int} {ar : List Nd} {a b c : Nat} {l l' : List Nat} (h : Lst K E ar a b l) (h' : Lst K E ar b c l') : Lst K E ar a c (l ++ l') := by
  have hbc := h'.le
  induction h with
  | nil a => exact h'
  | skip h1 h2 _ ih => exact .skip h1 h2 (ih h' hbc)
  | defn h1 h2 h3 h4 _ ih => exact .defn h1 h2 h3 (by omega) (ih h' hbc)
  | step h1 h2 h3 h4 h5 _ ih => exact .step h1 h2 h3 h4 h5 (ih h' hbc)
  | blk h1 h2 h3 h4 h5 h6 h7 h8 h9 _ _ ih => exact .blk h1 h2 h3 h4 (by omega) h6 h7 h8 h9 (ih h' hbc)

/-- it stays so, where what has ended stays -/
theorem Lst.keep {K : List Nat} {E E' : List Int} {ar ar' : List Nd} (hE : ∀ (j : Nat) (e : Nat), E[j]? = some (e : Int) → E'[j]? = some (e : Int)) (hlen : ar.length ≤ ar'.length)
    (hat : ∀ n, n < ar.length → (nd ar' n).at_ = (nd ar n).at_) (hb : ∀ n, 0 < n → n < ar.length → (∃ e : Nat, E[(nd ar n).at_]? = some (e : Int)) → (nd ar' n).body = (nd ar n).body)
    {a b : Nat} {l : List Nat} (h : Lst K E ar a b l) : Lst K E' ar' a b l := by
  induction h with
  | nil a => exact .nil a
  | skip h1 h2 _ ih => exact .skip h1 h2 ih
  | defn h1 h2 h3 h4 _ ih => exact .defn h1 (hE _ _ h2) h3 h4 ih
  | step h1 h2 h3 h4 h5 _ ih => exact .step h1 h2 (by omega) h4 (by rw [hat _ h3]; exact h5) ih
  | blk h1 h2 h3 h4 h5 h6 h7 h8 h9 _ ih1 ih =>
    refine .blk h1 h2 (hE _ _ h3) h4 h5 (by omega) h7 (by rw [hat _ h6]; exact h8) ?_ ih
    rw [hb _ h7 h6 ⟨_, by rw [h8]; exact h3⟩]
    exact ih1

def startOf (ar : List Nd) (m : Nat) : Nat := if m = 0 then 0 else (nd ar m).at_ + 1
/-- what stands under an open node -/
def Under (K : List Nat) (E : List Int) (ar : List Nd) : Nat → List Nat → Prop
  | c, [] => c = 0
  | c, m :: r => c ≠ 0 ∧ c < ar.length ∧ K[(nd ar c).at_]? = some (rkind (nd ar c).text) ∧ (∃ l0, Lst K E ar (startOf ar m) (nd ar c).at_ l0 ∧ (nd ar m).body = l0 ++ (if rkind (nd ar c).text = 2 then [] else [c])) ∧ Under K E ar m r

/-- what is known when the lines up to i have been read -/
structure Rel (L : List Str) (K : List Nat) (i : Nat) (E : List Int) (opn : List Nat) (st : RSt) : Prop where
  good : RGood st
  lenK : K.length = L.length
  lenE : E.length = L.length
  node : ∀ m, 0 < m → m < st.ar.length → (nd st.ar m).at_ < i ∧ L[(nd st.ar m).at_]? = some (nd st.ar m).text ∧ (nd st.ar m).ws = words (nd st.ar m).text ∧ K[(nd st.ar m).at_]? = some (rkind (nd st.ar m).text)
  letter : ∀ m, m < st.ar.length → (0 < m ∧ rkind (nd st.ar m).text = 4 ∧ letterB (wd (nd st.ar m).ws 1) = true ∧ 2 ≤ (nd st.ar m).ws.length ∧ (nd st.ar m).letter = (wd (nd st.ar m).ws 1).headD 0) ∨ ((nd st.ar m).letter = 0 ∧ (0 < m → rkind (nd st.ar m).text ≠ 4))
  mono : ∀ m m', 0 < m → m < m' → m' < st.ar.length → (nd st.ar m).at_ < (nd st.ar m').at_
  sorted : st.opn.Pairwise (· < ·)
  opn_ : opn = st.opn.tail.map fun m => (nd st.ar m).at_
  blocks : ∀ m ∈ st.opn, m ≠ 0 → rkind (nd st.ar m).text = 2 ∨ rkind (nd st.ar m).text = 3 ∨ rkind (nd st.ar m).text = 4
  eopen : ∀ m ∈ st.opn, m ≠ 0 → E[(nd st.ar m).at_]? = some (-1)
  efuture : ∀ j, i ≤ j → j < L.length → E[j]? = some (-1)
  chain : ∃ t r, st.opn.reverse = t :: r ∧ Lst K E st.ar (startOf st.ar t) i (nd st.ar t).body ∧ Under K E st.ar t r
  defs : ∀ j, K[j]? = some 2 → (∃ e : Nat, E[j]? = some (e : Int)) → ∃ m, (nd st.ar m).at_ = j ∧ (wd (nd st.ar m).ws 1, m) ∈ st.names
  names : ∀ p ∈ st.names, 0 < p.2 ∧ p.2 < st.ar.length ∧ rkind (nd st.ar p.2).text = 2 ∧ 2 ≤ (nd st.ar p.2).ws.length ∧ p.1 = wd (nd st.ar p.2).ws 1 ∧ look st.names p.1 = some p.2 ∧ ∃ e : Nat, E[(nd st.ar p.2).at_]? = some (e : Int) ∧ (nd st.ar p.2).at_ < e ∧ e < i ∧ Lst K E st.ar ((nd st.ar p.2).at_ + 1) e (nd st.ar p.2).body
  nmd : ∀ m, 0 < m → m < st.ar.length → rkind (nd st.ar m).text = 2 → namedB (wd (nd st.ar m).ws 1) = true
  klen : ∀ m, 0 < m → m < st.ar.length → ((rkind (nd st.ar m).text = 3 ∨ rkind (nd st.ar m).text = 6) → (nd st.ar m).ws.length = 2) ∧ (rkind (nd st.ar m).text = 4 → (nd st.ar m).ws.length = 4)
  uses : ∀ m, m < st.ar.length → ∀ d, (nd st.ar m).use = some d → 0 < m ∧ rkind (nd st.ar m).text = 6 ∧ d < m ∧ (wd (nd st.ar m).ws 1, d) ∈ st.names
end Drl
end

section
/-! the two readings go side by side; no program in sight -/
/-! the two readings go side by side; no program in sight -/
namespace Drl
set_option linter.unusedVariables false

theorem says_end : says wEnd = true := by decide
theorem words_wEnd : wd (words wEnd) 0 = wEnd := by decide
theorem rkind_wEnd : rkind wEnd = 5 := by decide
theorem rkind_end {t : Str} (h : rkind t = 5) : t = wEnd := by
  unfold rkind at h
  repeat' split at h
  all_goals first
    | assumption
    | (exfalso; omega)
theorem rkind_def {t : Str} (hs : says t = true) (h : wd (words t) 0 = wDef) : rkind t = 2 := by
  unfold rkind; rw [if_neg (by rw [hs]; decide), if_pos h]
theorem rkind_rep {t : Str} (hs : says t = true) (h : wd (words t) 0 = wRepeat) : rkind t = 3 := by
  unfold rkind; rw [if_neg (by rw [hs]; decide), if_neg (by rw [h]; decide), if_pos h]
theorem rkind_for {t : Str} (hs : says t = true) (h : wd (words t) 0 = wFor) : rkind t = 4 := by
  unfold rkind; rw [if_neg (by rw [hs]; decide), if_neg (by rw [h]; decide), if_neg (by rw [h]; decide), if_pos h]
theorem rkind_use {t : Str} (hs : says t = true) (h : wd (words t) 0 = wUse) : rkind t = 6 := by
  unfold rkind; rw [if_neg (by rw [hs]; decide), if_neg (by rw [h]; decide), if_neg (by rw [h]; decide), if_neg (by rw [h]; decide), if_pos h]
theorem rkind_else {t : Str} (hs : says t = true) (h1 : wd (words t) 0 ≠ wDef) (h2 : wd (words t) 0 ≠ wRepeat) (h3 : wd (words t) 0 ≠ wFor) (h4 : wd (words t) 0 ≠ wUse) (h5 : t ≠ wEnd) : 7 ≤ rkind t := by
  unfold rkind; rw [if_neg (by rw [hs]; decide), if_neg h1, if_neg h2, if_neg h3, if_neg h4]
  split
  · omega
  · first
    | omega
    | (rw [if_neg h5]; omega)
theorem rkind_says {t : Str} (h : rkind t ≠ 0) : says t = true := by
  cases e : says t with
  | true => rfl
  | false => exact absurd (by unfold rkind; rw [if_pos e]) h
theorem rkind_inv {t : Str} : (rkind t = 2 → wd (words t) 0 = wDef) ∧ (rkind t = 3 → wd (words t) 0 = wRepeat) ∧ (rkind t = 4 → wd (words t) 0 = wFor) ∧ (rkind t = 6 → wd (words t) 0 = wUse) ∧ (rkind t = 7 → wd (words t) 0 = wExpect) ∧ (7 ≤ rkind t → wd (words t) 0 ≠ wDef ∧ wd (words t) 0 ≠ wRepeat ∧ wd (words t) 0 ≠ wFor ∧ wd (words t) 0 ≠ wUse) ∧ (rkind t = 8 → wd (words t) 0 ≠ wExpect) := by
  unfold rkind
  repeat' split
  all_goals simp_all

theorem Under.lt {K : List Nat} {E : List Int} {ar : List Nd} : ∀ {r : List Nat} {c : Nat}, Under K E ar c r → ∀ m ∈ r, m ≠ 0 → m < ar.length
  | [], _, _, m, hm, _ => by cases hm
  | [m0], c, ⟨_, _, _, _, h⟩, m, hm, h0 => by
    simp at hm; subst hm
    exact absurd h h0
  | m0 :: m1 :: r, c, ⟨_, _, _, _, h⟩, m, hm, h0 => by
    rcases List.mem_cons.1 hm with rfl | hm
    · exact h.2.1
    · exact Under.lt h m hm h0

theorem Under.keep {K : List Nat} {E E' : List Int} {ar ar' : List Nd} (hE : ∀ (j : Nat) (e : Nat), E[j]? = some (e : Int) → E'[j]? = some (e : Int)) (hlen : ar.length ≤ ar'.length)
    (hat : ∀ n, n < ar.length → (nd ar' n).at_ = (nd ar n).at_ ∧ (nd ar' n).text = (nd ar n).text) (hb : ∀ n, 0 < n → n < ar.length → (∃ e : Nat, E[(nd ar n).at_]? = some (e : Int)) → (nd ar' n).body = (nd ar n).body) (h0 : 0 < ar.length) :
    ∀ {r : List Nat} {c : Nat}, (∀ m ∈ r, (nd ar' m).body = (nd ar m).body) → Under K E ar c r → Under K E' ar' c r
  | [], _, _, h => h
  | m :: r, c, hr, h => by
    have hlt := Under.lt h
    obtain ⟨h1, h2, h3, ⟨l0, h4, h5⟩, h6⟩ := h
    have hm : m < ar.length := by
      by_cases e : m = 0
      · omega
      · exact hlt m (by simp) e
    have hs : startOf ar' m = startOf ar m := by unfold startOf; rw [(hat m hm).1]
    refine ⟨h1, by omega, by rw [(hat c h2).1, (hat c h2).2]; exact h3, ⟨l0, ?_, ?_⟩, Under.keep hE hlen hat hb h0 (fun x hx => hr x (by simp [hx])) h6⟩
    · rw [hs, (hat c h2).1]
      exact h4.keep hE hlen (fun n hn => (hat n hn).1) hb
    · rw [hr m (by simp), (hat c h2).2]; exact h5

/-- a line that says nothing -/
theorem Rel.skip {L : List Str} {K : List Nat} {i : Nat} {E : List Int} {opn : List Nat} {st : RSt} (h : Rel L K i E opn st) {k : Nat} (hk : K[i]? = some k) (hk2 : k < 2) : Rel L K (i + 1) E opn st := by
  obtain ⟨t, r, h1, h2, h3⟩ := h.chain
  have hi : i < K.length := (List.getElem?_eq_some_iff.1 hk).1
  have hone : Lst K E st.ar i (i + 1) [] := .skip hk hk2 (.nil _)
  refine ⟨h.good, h.lenK, h.lenE, ?_, h.letter, h.mono, h.sorted, h.opn_, h.blocks, h.eopen, fun j hj => h.efuture j (by omega), ⟨t, r, h1, ?_, h3⟩, h.defs, fun p hp => ?_, h.nmd, h.klen, h.uses⟩
  · intro m h0 hm
    obtain ⟨a, b⟩ := h.node m h0 hm
    exact ⟨by omega, b⟩
  · have := h2.append hone
    simpa using this
  · obtain ⟨g1, g2, g3, g4, g5, g6, e, g7, g8, g9, g10⟩ := h.names p hp
    exact ⟨g1, g2, g3, g4, g5, g6, e, g7, g8, by omega, g10⟩

theorem addTo_nd {ar : List Nd} {x : Nd} {i m : Nat} (hm : m < ar.length) (hi : i < ar.length) : nd (addTo (ar ++ [x]) i ar.length) m = if m = i then { nd ar m with body := (nd ar m).body ++ [ar.length] } else nd ar m := by
  rw [nd_addTo (by simp; omega), nd_append hm]
theorem addTo_new {ar : List Nd} {x : Nd} {i : Nat} (hi : i < ar.length) : nd (addTo (ar ++ [x]) i ar.length) ar.length = x := by
  rw [nd_addTo (by simp), nd_last, if_neg (by omega)]

/-- what a list of nodes looks like behind one more line -/
structure Grown (ar ar' : List Nd) (x : Nd) (t : Nat) (join : Bool) : Prop where
  len : ar'.length = ar.length + 1
  new : nd ar' ar.length = x
  old : ∀ m, m < ar.length → (nd ar' m).at_ = (nd ar m).at_ ∧ (nd ar' m).text = (nd ar m).text ∧ (nd ar' m).ws = (nd ar m).ws ∧ (nd ar' m).letter = (nd ar m).letter ∧ (nd ar' m).use = (nd ar m).use
  body : ∀ m, m < ar.length → (nd ar' m).body = if join = true ∧ m = t then (nd ar m).body ++ [ar.length] else (nd ar m).body

theorem grown_join (ar : List Nd) (x : Nd) (t : Nat) (ht : t < ar.length) : Grown ar (addTo (ar ++ [x]) t ar.length) x t true := by
  refine ⟨by rw [addTo_len]; simp, addTo_new ht, fun m hm => ?_, fun m hm => ?_⟩
  · rw [addTo_nd hm ht]; split <;> exact ⟨rfl, rfl, rfl, rfl, rfl⟩
  · rw [addTo_nd hm ht]
    by_cases e : m = t
    · rw [if_pos e, if_pos ⟨rfl, e⟩]
    · rw [if_neg e, if_neg (fun h => e h.2)]
theorem grown_push (ar : List Nd) (x : Nd) (t : Nat) : Grown ar (ar ++ [x]) x t false := by
  refine ⟨by simp, nd_last _ _, fun m hm => ?_, fun m hm => ?_⟩
  · rw [nd_append hm]; exact ⟨rfl, rfl, rfl, rfl, rfl⟩
  · rw [nd_append hm]; simp

/-- facts that a line's node brings, whatever it is -/
structure Base (L : List Str) (K : List Nat) (i : Nat) (E : List Int) (opn : List Nat) (st : RSt) (t : Str) (x : Nd) (join : Bool) (ar' : List Nd) : Prop where
  rel : Rel L K i E opn st
  gr : Grown st.ar ar' x (top st) join
  li : L[i]? = some t
  ki : K[i]? = some (rkind t)
  k0 : rkind t ≠ 0
  xat : x.at_ = i
  xtext : x.text = t
  xws : x.ws = words t
  xbody : x.body = []
  xlet : (rkind t = 4 ∧ letterB (wd (words t) 1) = true ∧ 2 ≤ (words t).length ∧ x.letter = (wd (words t) 1).headD 0) ∨ (x.letter = 0 ∧ rkind t ≠ 4)
  xnmd : rkind t = 2 → namedB (wd (words t) 1) = true
  xk : ((rkind t = 3 ∨ rkind t = 6) → (words t).length = 2) ∧ (rkind t = 4 → (words t).length = 4)
  xuse : ∀ d, x.use = some d → rkind t = 6 ∧ (wd (words t) 1, d) ∈ st.names

section
variable {L : List Str} {K : List Nat} {i : Nat} {E : List Int} {opn : List Nat} {st : RSt} {t : Str} {x : Nd} {join : Bool} {ar' : List Nd}

theorem Base.cases_lt (h : Base L K i E opn st t x join ar') {m : Nat} (hm : m < ar'.length) : m < st.ar.length ∨ m = st.ar.length := by have := h.gr.len; omega
theorem Base.hb (h : Base L K i E opn st t x join ar') : ∀ n, 0 < n → n < st.ar.length → (∃ e : Nat, E[(nd st.ar n).at_]? = some (e : Int)) → (nd ar' n).body = (nd st.ar n).body := by
  intro n h0 hn ⟨e, he⟩
  rw [h.gr.body n hn]
  split
  · next hh =>
    exfalso
    have hm := h.rel.good.inv.top_mem
    rw [← hh.2] at hm
    have := h.rel.eopen n hm (by omega)
    rw [he] at this
    have := Option.some.inj this
    omega
  · rfl
theorem Base.node (h : Base L K i E opn st t x join ar') : ∀ m, 0 < m → m < ar'.length → (nd ar' m).at_ < i + 1 ∧ L[(nd ar' m).at_]? = some (nd ar' m).text ∧ (nd ar' m).ws = words (nd ar' m).text ∧ K[(nd ar' m).at_]? = some (rkind (nd ar' m).text) := by
  intro m h0 hm
  rcases h.cases_lt hm with hm | rfl
  · obtain ⟨a, b, c, _⟩ := h.gr.old m hm
    obtain ⟨d, e, f, g⟩ := h.rel.node m h0 hm
    rw [a, b, c]
    exact ⟨by omega, e, f, g⟩
  · rw [h.gr.new, h.xat, h.xtext, h.xws]
    exact ⟨by omega, h.li, rfl, h.ki⟩
theorem Base.letter (h : Base L K i E opn st t x join ar') : ∀ m, m < ar'.length → (0 < m ∧ rkind (nd ar' m).text = 4 ∧ letterB (wd (nd ar' m).ws 1) = true ∧ 2 ≤ (nd ar' m).ws.length ∧ (nd ar' m).letter = (wd (nd ar' m).ws 1).headD 0) ∨ ((nd ar' m).letter = 0 ∧ (0 < m → rkind (nd ar' m).text ≠ 4)) := by
  intro m hm
  rcases h.cases_lt hm with hm | rfl
  · obtain ⟨a, b, c, d, _⟩ := h.gr.old m hm
    rw [b, c, d]
    exact h.rel.letter m hm
  · rw [h.gr.new, h.xtext, h.xws]
    have := h.rel.good.inv.pos
    rcases h.xlet with ⟨a, b, c, d⟩ | ⟨a, b⟩
    · exact .inl ⟨this, a, b, c, d⟩
    · exact .inr ⟨a, fun _ => b⟩
theorem Base.mono (h : Base L K i E opn st t x join ar') : ∀ m m', 0 < m → m < m' → m' < ar'.length → (nd ar' m).at_ < (nd ar' m').at_ := by
  intro m m' h0 hmm hm'
  rcases h.cases_lt hm' with hm' | rfl
  · rw [(h.gr.old m (by omega)).1, (h.gr.old m' hm').1]
    exact h.rel.mono m m' h0 hmm hm'
  · rw [(h.gr.old m hmm).1, h.gr.new, h.xat]
    exact (h.rel.node m h0 hmm).1
theorem Base.eopen (h : Base L K i E opn st t x join ar') : ∀ m ∈ st.opn, m ≠ 0 → E[(nd ar' m).at_]? = some (-1) := by
  intro m hm h0
  rw [(h.gr.old m (h.rel.good.inv.opnlt m hm)).1]
  exact h.rel.eopen m hm h0
theorem Base.blocks (h : Base L K i E opn st t x join ar') : ∀ m ∈ st.opn, m ≠ 0 → rkind (nd ar' m).text = 2 ∨ rkind (nd ar' m).text = 3 ∨ rkind (nd ar' m).text = 4 := by
  intro m hm h0
  rw [(h.gr.old m (h.rel.good.inv.opnlt m hm)).2.1]
  exact h.rel.blocks m hm h0
theorem Base.ei (h : Base L K i E opn st t x join ar') : E[i]? = some (-1) := h.rel.efuture i (Nat.le_refl _) (List.getElem?_eq_some_iff.1 h.li).1
theorem Base.defs (h : Base L K i E opn st t x join ar') : ∀ j, K[j]? = some 2 → (∃ e : Nat, E[j]? = some (e : Int)) → ∃ m, (nd ar' m).at_ = j ∧ (wd (nd ar' m).ws 1, m) ∈ st.names := by
  intro j hj he
  obtain ⟨m, h1, h2⟩ := h.rel.defs j hj he
  have hm := h.rel.good.inv.namelt _ h2
  dsimp only at hm
  obtain ⟨a, b, c, _⟩ := h.gr.old m hm
  exact ⟨m, by rw [a]; exact h1, by rw [c]; exact h2⟩
theorem Base.lstKeep (h : Base L K i E opn st t x join ar') {a b : Nat} {l : List Nat} (hl : Lst K E st.ar a b l) : Lst K E ar' a b l :=
  hl.keep (fun _ _ h => h) (by have := h.gr.len; omega) (fun n hn => (h.gr.old n hn).1) h.hb
theorem Base.names (h : Base L K i E opn st t x join ar') : ∀ p ∈ st.names, 0 < p.2 ∧ p.2 < ar'.length ∧ rkind (nd ar' p.2).text = 2 ∧ 2 ≤ (nd ar' p.2).ws.length ∧ p.1 = wd (nd ar' p.2).ws 1 ∧ look st.names p.1 = some p.2 ∧ ∃ e : Nat, E[(nd ar' p.2).at_]? = some (e : Int) ∧ (nd ar' p.2).at_ < e ∧ e < i + 1 ∧ Lst K E ar' ((nd ar' p.2).at_ + 1) e (nd ar' p.2).body := by
  intro p hp
  obtain ⟨h1, h2, h3, h4, h5, h6, e, h7, h8, h8', h9⟩ := h.rel.names p hp
  obtain ⟨a, b, c, _⟩ := h.gr.old p.2 h2
  rw [a, b, c, h.hb p.2 h1 h2 ⟨e, h7⟩]
  exact ⟨h1, by have := h.gr.len; omega, h3, h4, h5, h6, e, h7, h8, by omega, h.lstKeep h9⟩
theorem Base.nmd (h : Base L K i E opn st t x join ar') : ∀ m, 0 < m → m < ar'.length → rkind (nd ar' m).text = 2 → namedB (wd (nd ar' m).ws 1) = true := by
  intro m h0 hm hk
  rcases h.cases_lt hm with hm | rfl
  · obtain ⟨_, b, c, _⟩ := h.gr.old m hm
    rw [b] at hk
    rw [c]
    exact h.rel.nmd m h0 hm hk
  · rw [h.gr.new, h.xtext] at hk
    rw [h.gr.new, h.xws]
    exact h.xnmd hk
theorem Base.klen (h : Base L K i E opn st t x join ar') : ∀ m, 0 < m → m < ar'.length → ((rkind (nd ar' m).text = 3 ∨ rkind (nd ar' m).text = 6) → (nd ar' m).ws.length = 2) ∧ (rkind (nd ar' m).text = 4 → (nd ar' m).ws.length = 4) := by
  intro m h0 hm
  rcases h.cases_lt hm with hm | rfl
  · obtain ⟨_, b, c, _⟩ := h.gr.old m hm
    rw [b, c]
    exact h.rel.klen m h0 hm
  · rw [h.gr.new, h.xtext, h.xws]
    exact h.xk
theorem Base.uses (h : Base L K i E opn st t x join ar') : ∀ m, m < ar'.length → ∀ d, (nd ar' m).use = some d → 0 < m ∧ rkind (nd ar' m).text = 6 ∧ d < m ∧ (wd (nd ar' m).ws 1, d) ∈ st.names := by
  intro m hm d hd
  rcases h.cases_lt hm with hm | rfl
  · obtain ⟨_, b, c, _, f⟩ := h.gr.old m hm
    rw [f] at hd
    rw [b, c]
    exact h.rel.uses m hm d hd
  · rw [h.gr.new] at hd
    rw [h.gr.new, h.xtext, h.xws]
    obtain ⟨h1, h2⟩ := h.xuse d hd
    exact ⟨h.rel.good.inv.pos, h1, h.rel.good.inv.namelt _ h2, h2⟩
theorem Base.opnSame (h : Base L K i E opn st t x join ar') : (st.opn.tail.map fun m => (nd ar' m).at_) = st.opn.tail.map fun m => (nd st.ar m).at_ := by
  apply List.map_congr_left
  intro m hm
  exact (h.gr.old m (h.rel.good.inv.opnlt m (List.mem_of_mem_tail hm))).1
/-- the chain's top is the top -/
theorem Rel.top_ (h : Rel L K i E opn st) {t : Nat} {r : List Nat} (e : st.opn.reverse = t :: r) : top st = t := by
  have : st.opn = (t :: r).reverse := by rw [← e, List.reverse_reverse]
  rw [top, this]
  simp
theorem Rel.below (h : Rel L K i E opn st) {t : Nat} {r : List Nat} (e : st.opn.reverse = t :: r) : ∀ m ∈ r, m < t := by
  have hs := h.sorted
  have : st.opn = r.reverse ++ [t] := by
    have : st.opn = (t :: r).reverse := by rw [← e, List.reverse_reverse]
    rw [this]; simp
  rw [this, List.pairwise_append] at hs
  intro m hm
  exact hs.2.2 m (by simpa using hm) t (by simp)
theorem Base.under (h : Base L K i E opn st t x join ar') {c : Nat} {r : List Nat} (hr : ∀ m ∈ r, m ≠ top st) (hu : Under K E st.ar c r) : Under K E ar' c r := by
  refine Under.keep (fun _ _ h => h) (by have := h.gr.len; omega) (fun n hn => ⟨(h.gr.old n hn).1, (h.gr.old n hn).2.1⟩) h.hb h.rel.good.inv.pos (fun m hm => ?_) hu
  have hlt : m < st.ar.length := by
    by_cases e : m = 0
    · have := h.rel.good.inv.pos; omega
    · exact Under.lt hu m hm e
  rw [h.gr.body m hlt, if_neg (fun e => hr m hm e.2)]
theorem Base.start (h : Base L K i E opn st t x join ar') {m : Nat} (hm : m < st.ar.length) : startOf ar' m = startOf st.ar m := by unfold startOf; rw [(h.gr.old m hm).1]
end
end Drl
end

section
namespace Drl
variable {L : List Str} {K : List Nat} {i : Nat} {E : List Int} {opn : List Nat} {st : RSt} {t : Str} {x : Nd} {join : Bool} {ar' : List Nd}

/-- a step or a use -/
theorem Base.joined (h : Base L K i E opn st t x true ar') (hk : 6 ≤ rkind t) (hg : RGood { st with ar := ar' }) : Rel L K (i + 1) E opn { st with ar := ar' } := by
  obtain ⟨tp, r, h1, h2, h3⟩ := h.rel.chain
  have htop := h.rel.top_ h1
  have htl := h.rel.good.inv.top_lt
  have hbel := h.rel.below h1
  refine ⟨hg, h.rel.lenK, h.rel.lenE, h.node, h.letter, h.mono, h.rel.sorted, ?_, h.blocks, h.eopen, fun j hj => h.rel.efuture j (by omega), ⟨tp, r, h1, ?_, ?_⟩, h.defs, h.names, h.nmd, h.klen, h.uses⟩
  · rw [h.opnSame]; exact h.rel.opn_
  · dsimp only
    rw [h.start (by rw [← htop]; exact htl), h.gr.body tp (by rw [← htop]; exact htl), if_pos ⟨rfl, htop.symm⟩]
    refine (h.lstKeep h2).append (.step h.ki hk (by rw [h.gr.len]; omega) h.rel.good.inv.pos (by rw [h.gr.new, h.xat]) (.nil _))
  · exact h.under (fun m hm => by have := hbel m hm; omega) h3

theorem sorted_snoc {l : List Nat} {n : Nat} (h : l.Pairwise (· < ·)) (hn : ∀ m ∈ l, m < n) : (l ++ [n]).Pairwise (· < ·) := by
  rw [List.pairwise_append]
  exact ⟨h, by simp, fun a ha b hb => by simp at hb; subst hb; exact hn a ha⟩

/-- a block begins -/
theorem Base.opened (h : Base L K i E opn st t x join ar') (hk : rkind t = 2 ∨ rkind t = 3 ∨ rkind t = 4) (hj : join = true ↔ rkind t ≠ 2) (hg : RGood { st with ar := ar', opn := st.opn ++ [st.ar.length] }) : Rel L K (i + 1) E (opn ++ [i]) { st with ar := ar', opn := st.opn ++ [st.ar.length] } := by
  obtain ⟨tp, r, h1, h2, h3⟩ := h.rel.chain
  have htop := h.rel.top_ h1
  have htl := h.rel.good.inv.top_lt
  have hbel := h.rel.below h1
  have hpos := h.rel.good.inv.pos
  have hne := h.rel.good.inv.ne
  have hnew : (nd ar' st.ar.length).at_ = i ∧ (nd ar' st.ar.length).text = t ∧ (nd ar' st.ar.length).body = [] := by rw [h.gr.new]; exact ⟨h.xat, h.xtext, h.xbody⟩
  refine ⟨hg, h.rel.lenK, h.rel.lenE, h.node, h.letter, h.mono, sorted_snoc h.rel.sorted h.rel.good.inv.opnlt, ?_, ?_, ?_, fun j hj => h.rel.efuture j (by omega), ⟨st.ar.length, tp :: r, ?_, ?_, ?_⟩, h.defs, h.names, h.nmd, h.klen, h.uses⟩
  · dsimp only
    rw [List.tail_append_of_ne_nil hne, List.map_append, h.opnSame, ← h.rel.opn_]
    simp [hnew.1]
  · intro m hm h0
    dsimp only at hm ⊢
    rcases List.mem_append.1 hm with hm | hm
    · exact h.blocks m hm h0
    · simp at hm; subst hm; rw [hnew.2.1]; exact hk
  · intro m hm h0
    dsimp only at hm ⊢
    rcases List.mem_append.1 hm with hm | hm
    · exact h.eopen m hm h0
    · simp at hm; subst hm; rw [hnew.1]; exact h.ei
  · simp [h1]
  · dsimp only
    have : startOf ar' st.ar.length = i + 1 := by unfold startOf; rw [if_neg (by omega), hnew.1]
    rw [this, hnew.2.2]
    exact .nil _
  · refine ⟨by omega, by dsimp only; rw [h.gr.len]; omega, by dsimp only; rw [hnew.1, hnew.2.1]; exact h.ki, ⟨(nd st.ar tp).body, ?_, ?_⟩, h.under (fun m hm => by have := hbel m hm; omega) h3⟩
    · dsimp only
      rw [h.start (by rw [← htop]; exact htl), hnew.1]
      exact h.lstKeep h2
    · dsimp only
      rw [h.gr.body tp (by rw [← htop]; exact htl), hnew.2.1]
      by_cases e : rkind t = 2
      · rw [if_pos e, if_neg (fun hh => (hj.1 hh.1) e)]; simp
      · rw [if_neg e, if_pos ⟨hj.2 e, htop.symm⟩]

theorem get_set_ne {E : List Int} {a b : Nat} {v : Int} (h : a ≠ b) : (E.set a v)[b]? = E[b]? := by rw [List.getElem?_set_ne h]

/-- a block ends -/
theorem Base.ended (h : Base L K i E opn st t x false ar') (ht : top st ≠ 0) (names : List (Str × Nat))
    (hn : names = if wd (nd st.ar (top st)).ws 0 = wDef then st.names ++ [(wd (nd st.ar (top st)).ws 1, top st)] else st.names)
    (hg : RGood { st with ar := ar', opn := st.opn.dropLast, names := names }) (hlk : wd (nd st.ar (top st)).ws 0 = wDef → look st.names (wd (nd st.ar (top st)).ws 1) = none ∧ (nd st.ar (top st)).ws.length = 2) :
    Rel L K (i + 1) (E.set (nd st.ar (top st)).at_ i) opn.dropLast { st with ar := ar', opn := st.opn.dropLast, names := names } := by
  obtain ⟨tp, r, h1, h2, h3⟩ := h.rel.chain
  have htop := h.rel.top_ h1
  have htl := h.rel.good.inv.top_lt
  have htm := h.rel.good.inv.top_mem
  have hbel := h.rel.below h1
  have hpos := h.rel.good.inv.pos
  have hne := h.rel.good.inv.ne
  obtain ⟨na, nL, nw, nK⟩ := h.rel.node (top st) (by omega) htl
  have hblk := h.rel.blocks (top st) htm ht
  have hEt := h.rel.eopen (top st) htm ht
  have hlenE : (nd st.ar (top st)).at_ < E.length := (List.getElem?_eq_some_iff.1 hEt).1
  have hsub : ∀ m ∈ st.opn.dropLast, m ∈ st.opn ∧ m ≠ top st := by
    intro m hm
    have e : st.opn.dropLast = r.reverse := by
      have : st.opn = (tp :: r).reverse := by rw [← h1, List.reverse_reverse]
      rw [this]; simp
    refine ⟨List.dropLast_subset _ hm, ?_⟩
    rw [e] at hm
    have := hbel m (by simpa using hm)
    omega
  have hinj : ∀ m, m ∈ st.opn → m ≠ top st → m ≠ 0 → (nd st.ar m).at_ ≠ (nd st.ar (top st)).at_ := by
    intro m hm hmt h0 e
    have hml := h.rel.good.inv.opnlt m hm
    rcases Nat.lt_or_gt_of_ne hmt with hlt | hlt
    · have := h.rel.mono m (top st) (by omega) hlt htl; omega
    · have := h.rel.mono (top st) m (by omega) hlt hml; omega
  have hE : ∀ (j : Nat) (e : Nat), E[j]? = some (e : Int) → (E.set (nd st.ar (top st)).at_ i)[j]? = some (e : Int) := by
    intro j e he
    by_cases hj : (nd st.ar (top st)).at_ = j
    · subst hj
      rw [hEt] at he
      have := Option.some.inj he
      omega
    · rw [get_set_ne hj]; exact he
  have hset : (E.set (nd st.ar (top st)).at_ (i : Int))[(nd st.ar (top st)).at_]? = some (i : Int) := by
    rw [List.getElem?_set_self hlenE]
  have hkeep : ∀ {a b : Nat} {l : List Nat}, Lst K E st.ar a b l → Lst K (E.set (nd st.ar (top st)).at_ i) ar' a b l := fun hl =>
    hl.keep hE (by have := h.gr.len; omega) (fun n hn => (h.gr.old n hn).1) h.hb
  have hbody : ∀ m, m < st.ar.length → (nd ar' m).body = (nd st.ar m).body := fun m hm => by
    rw [h.gr.body m hm, if_neg (by intro e; exact absurd e.1 (by decide))]
  have hlook : ∀ s m, look st.names s = some m → look names s = some m := by
    intro s m hs
    rw [hn]
    split
    · unfold look at hs ⊢
      obtain ⟨p, hp, hpm⟩ := Option.map_eq_some_iff.1 hs
      rw [List.find?_append, hp]
      simp [hpm]
    · exact hs
  have hmemn : ∀ p, p ∈ st.names → p ∈ names := by
    intro p hp
    rw [hn]; split
    · exact List.mem_append_left _ hp
    · exact hp
  refine ⟨hg, h.rel.lenK, by rw [List.length_set]; exact h.rel.lenE, h.node, h.letter, h.mono, ?_, ?_, ?_, ?_, ?_, ?_, ?_, ?_, h.nmd, h.klen, ?_⟩
  · exact h.rel.sorted.sublist (List.dropLast_sublist _)
  · dsimp only
    rw [h.rel.opn_, ← List.map_dropLast]
    have e : st.opn.tail.dropLast = st.opn.dropLast.tail := by rw [List.tail_dropLast]
    rw [e]
    apply List.map_congr_left
    intro m hm
    exact (h.gr.old m (h.rel.good.inv.opnlt m (hsub m (List.mem_of_mem_tail hm)).1)).1.symm
  · intro m hm h0
    exact h.blocks m (hsub m hm).1 h0
  · intro m hm h0
    dsimp only at hm ⊢
    rw [(h.gr.old m (h.rel.good.inv.opnlt m (hsub m hm).1)).1, get_set_ne (Ne.symm (hinj m (hsub m hm).1 (hsub m hm).2 h0))]
    exact h.rel.eopen m (hsub m hm).1 h0
  · intro j hj hl
    rw [get_set_ne (by omega)]
    exact h.rel.efuture j (by omega) hl
  · cases r with
    | nil => exact absurd h3 (by rw [← htop]; exact ht)
    | cons m r' =>
      obtain ⟨u1, u2, u3, ⟨l0, u4, u5⟩, u6⟩ := h3
      have hml : m < st.ar.length := by have := hbel m (by simp); omega
      refine ⟨m, r', ?_, ?_, ?_⟩
      · dsimp only
        have : st.opn = (tp :: m :: r').reverse := by rw [← h1, List.reverse_reverse]
        rw [this]; simp
      · dsimp only
        rw [h.start hml, hbody m hml, u5]
        refine (hkeep u4).append ?_
        rw [← htop]
        have hlast : Lst K (E.set (nd st.ar (top st)).at_ i) ar' (i + 1) (i + 1) [] := .nil _
        by_cases e : rkind (nd st.ar (top st)).text = 2
        · rw [if_pos e]
          exact .defn (by rw [nK, e]) hset na (by omega) hlast
        · rw [if_neg e]
          refine .blk nK (by omega) hset na (by omega) (by rw [h.gr.len]; omega) (by omega) (h.gr.old _ htl).1 ?_ hlast
          rw [hbody _ htl]
          have := hkeep h2
          rw [← htop] at this
          unfold startOf at this
          rw [if_neg ht] at this
          exact this
      · refine Under.keep hE (by have := h.gr.len; first | omega | (dsimp only; omega)) (fun n hn => ⟨(h.gr.old n hn).1, (h.gr.old n hn).2.1⟩) h.hb hpos (fun z hz => hbody z ?_) u6
        have := hbel z (by simp [hz]); omega
  · intro j hj he
    by_cases e : (nd st.ar (top st)).at_ = j
    · subst e
      rw [nK] at hj
      have hk2 := Option.some.inj hj
      have hd : wd (nd st.ar (top st)).ws 0 = wDef := by rw [nw]; exact rkind_inv.1 hk2
      refine ⟨top st, (h.gr.old _ htl).1, ?_⟩
      dsimp only
      rw [(h.gr.old _ htl).2.2.1, hn, if_pos hd]
      simp
    · rw [get_set_ne e] at he
      obtain ⟨m, h1, h2⟩ := h.defs j hj he
      exact ⟨m, h1, hmemn _ h2⟩
  · intro p hp
    dsimp only at hp ⊢
    by_cases hold : p ∈ st.names
    · obtain ⟨g1, g2, g3, g4, g5, g6, e, g7, g8, g8', g9⟩ := h.rel.names p hold
      obtain ⟨a, b, c, _⟩ := h.gr.old p.2 g2
      rw [a, b, c, hbody _ g2]
      exact ⟨g1, by have := h.gr.len; omega, g3, g4, g5, hlook _ _ g6, e, hE _ _ g7, g8, by omega, hkeep g9⟩
    · rw [hn] at hp
      split at hp
      · next hd =>
        rcases List.mem_append.1 hp with hp | hp
        · exact absurd hp hold
        · simp only [List.mem_singleton] at hp
          subst hp
          dsimp only
          obtain ⟨a, b, c, _⟩ := h.gr.old (top st) htl
          obtain ⟨l1, l2⟩ := hlk hd
          rw [a, b, c, hbody _ htl]
          have hk2 : rkind (nd st.ar (top st)).text = 2 := by
            rcases hblk with e | e | e
            · exact e
            · have := (rkind_inv (t := (nd st.ar (top st)).text)).2.1 e; rw [← nw, hd] at this; exact absurd this (by decide)
            · have := (rkind_inv (t := (nd st.ar (top st)).text)).2.2.1 e; rw [← nw, hd] at this; exact absurd this (by decide)
          refine ⟨by omega, by have := h.gr.len; omega, hk2, by omega, rfl, ?_, i, hset, na, by omega, ?_⟩
          · rw [hn, if_pos hd]
            unfold look at l1 ⊢
            rw [List.find?_append]
            have : List.find? (fun p => p.1 == wd (nd st.ar (top st)).ws 1) st.names = none := by
              simpa using l1
            rw [this]
            simp
          · have := hkeep h2
            rw [← htop] at this
            unfold startOf at this
            rw [if_neg ht] at this
            exact this
      · exact absurd hp hold
  · intro m hm d hd
    obtain ⟨a, b, c, e⟩ := h.uses m hm d hd
    exact ⟨a, b, c, hmemn _ e⟩
end Drl
end

section
namespace Drl

/-! ### what is asked of a line -/
def standsB (L : List Str) (K : List Nat) (opn : List Nat) (l : Int) : Bool := opn.any fun k => K.getD k 0 == 4 && rlet (wd (words (L.getD k [])) 1) == l
def rcountsB (L : List Str) (K : List Nat) (opn : List Nat) (s : Str) : Bool :=
  if 0 ≤ rnum s then decide (rnum s ≤ 1000)
  else decide (s.length = 2) && (decide ((s.headD 0).toNat = 36) && (decide (0 ≤ rlet (s.drop 1)) && standsB L K opn (rlet (s.drop 1))))
/-- the def of that name that has ended ahead of line i -/
def IsThere (L : List Str) (K : List Nat) (E : List Int) (s : Str) (k : Nat) : Prop := K[k]? = some 2 ∧ (∃ e : Nat, E[k]? = some (e : Int)) ∧ wd (words (L.getD k [])) 1 = s
def ThereIs (L : List Str) (K : List Nat) (E : List Int) (s : Str) (i : Nat) (r : Int) : Prop :=
  (∃ k : Nat, k < i ∧ IsThere L K E s k ∧ r = k) ∨ ((∀ k, k < i → ¬ IsThere L K E s k) ∧ r = -1)
/-- what is wrong with a line; th: is there such a name? -/
def rchk (L : List Str) (K : List Nat) (opn : List Nat) (t : Str) (k : Nat) (th : Bool) : Nat :=
  if k = 2 then (if (words t).length ≠ 2 then 291 else if 0 < opn.length then 290 else if !namedB (wd (words t) 1) || th then 291 else 0)
  else if k = 3 then (if (words t).length ≠ 2 || !rcountsB L K opn (wd (words t) 1) then 292 else 0)
  else if k = 4 then (if (words t).length ≠ 4 then 293 else if decide (rlet (wd (words t) 1) < 0) || standsB L K opn (rlet (wd (words t) 1)) then 293 else if !rcountsB L K opn (wd (words t) 2) || !rcountsB L K opn (wd (words t) 3) then 292 else 0)
  else if k = 5 then (if opn.length = 0 then 290 else 0)
  else if k = 6 then (if (words t).length ≠ 2 || (!namedB (wd (words t) 1) || !th) then 291 else 0)
  else 0

section
variable {L : List Str} {K : List Nat} {i : Nat} {E : List Int} {opn : List Nat} {st : RSt}

/-- the def is there just if its name is known -/
theorem Rel.there (h : Rel L K i E opn st) (s : Str) {j : Nat} : (∀ k, IsThere L K E s k → ∃ d, look st.names s = some d ∧ (nd st.ar d).at_ = k) ∧ (∀ d, look st.names s = some d → IsThere L K E s (nd st.ar d).at_) ∧ j = j := by
  refine ⟨?_, ?_, rfl⟩
  · rintro k ⟨h1, h2, h3⟩
    obtain ⟨m, m1, m2⟩ := h.defs k h1 h2
    obtain ⟨n1, n2, n3, n4, n5, n6, _⟩ := h.names _ m2
    dsimp only at n1 n2 n6
    obtain ⟨_, hL, hw, _⟩ := h.node m n1 n2
    rw [m1] at hL
    have : L.getD k [] = (nd st.ar m).text := by rw [List.getD_eq_getElem?_getD, hL]; rfl
    rw [this, ← hw] at h3
    rw [h3] at n6
    exact ⟨m, n6, m1⟩
  · intro d hd
    unfold look at hd
    obtain ⟨p, hp, rfl⟩ := Option.map_eq_some_iff.1 hd
    have hpm := List.mem_of_find?_eq_some hp
    have hps : p.1 = s := by have := List.find?_some hp; simpa using this
    obtain ⟨n1, n2, n3, n4, n5, n6, e, n7, _⟩ := h.names _ hpm
    obtain ⟨_, hL, hw, hK⟩ := h.node p.2 n1 n2
    refine ⟨by rw [hK, n3], ⟨e, n7⟩, ?_⟩
    have : L.getD (nd st.ar p.2).at_ [] = (nd st.ar p.2).text := by rw [List.getD_eq_getElem?_getD, hL]; rfl
    rw [this, ← hw, ← n5, hps]
/-- .. so the answer tells -/
theorem Rel.thereIs (h : Rel L K i E opn st) {s : Str} {j : Nat} (hj : ∀ d, look st.names s = some d → (nd st.ar d).at_ < j) {r : Int} (hr : ThereIs L K E s j r) :
    (look st.names s = none ∧ r = -1) ∨ ∃ d, look st.names s = some d ∧ r = ((nd st.ar d).at_ : Int) := by
  obtain ⟨h1, h2, _⟩ := h.there s (j := 0)
  rcases hr with ⟨k, hk, hi, rfl⟩ | ⟨hn, rfl⟩
  · obtain ⟨d, hd, e⟩ := h1 k hi
    exact .inr ⟨d, hd, by rw [e]⟩
  · refine .inl ⟨?_, rfl⟩
    cases e : look st.names s with
    | none => rfl
    | some d => exact absurd (h2 d e) (hn _ (hj d e))
theorem Rel.look_lt (h : Rel L K i E opn st) {s : Str} {d : Nat} (hd : look st.names s = some d) : 0 < d ∧ d < st.ar.length ∧ (nd st.ar d).at_ < i := by
  obtain ⟨p, hp, rfl⟩ := look_in hd
  obtain ⟨n1, n2, _⟩ := h.names _ hp
  exact ⟨n1, n2, (h.node _ n1 n2).1⟩

theorem letterB_ex {s : Str} (h : letterB s = true) : ∃ c, s = [c] ∧ isLet c = true := by
  match s, h with
  | [c], h => exact ⟨c, rfl, h⟩
theorem rlet_of (c : UInt8) (h : isLet c = true) : rlet [c] = (c.toNat : Int) - 97 := by
  unfold rlet letterB; rw [if_pos h]; rfl
theorem rlet_no {s : Str} (h : letterB s = false) : rlet s = -1 := by unfold rlet; rw [h]; rfl
theorem isLet_nat {c : UInt8} (h : isLet c = true) : 97 ≤ c.toNat ∧ c.toNat ≤ 122 := by simpa [isLet] using h
theorem rlet_sign (s : Str) : decide (0 ≤ rlet s) = letterB s := by
  cases e : letterB s with
  | true =>
    obtain ⟨c, rfl, hc⟩ := letterB_ex e
    have := isLet_nat hc
    rw [rlet_of c hc]; simp; omega
  | false => rw [rlet_no e]; decide

/-- a letter stands for something just if a for that is open has it -/
theorem Rel.stands (h : Rel L K i E opn st) (c : UInt8) (hc : isLet c = true) : standsB L K opn ((c.toNat : Int) - 97) = around st.ar st.opn c := by
  obtain ⟨tl, ho, hnot⟩ := h.good.inv.opn0
  have hroot : (nd st.ar 0).letter = 0 := by
    rcases h.letter 0 h.good.inv.pos with ⟨h0, _⟩ | ⟨h0, _⟩
    · exact absurd h0 (Nat.lt_irrefl _)
    · exact h0
  have hcz := isLet_nat hc
  unfold around standsB
  rw [h.opn_, ho]
  simp only [List.tail_cons, List.any_map, List.any_cons, hroot]
  have h0 : ((0 : UInt8) == c) = false := by rw [beq_eq_false_iff_ne]; rintro rfl; simp at hcz
  rw [h0, Bool.false_or]
  have hnz : ∀ m ∈ tl, m ≠ 0 ∧ m < st.ar.length := by
    intro m hm
    refine ⟨?_, h.good.inv.opnlt m (by rw [ho]; simp [hm])⟩
    rintro rfl
    exact hnot hm
  clear ho hnot
  induction tl with
  | nil => rfl
  | cons m r ih =>
    simp only [List.any_cons]
    rw [ih (fun x hx => hnz x (by simp [hx]))]
    congr 1
    obtain ⟨hm0, hml⟩ := hnz m (by simp)
    obtain ⟨_, hL, hw, hK⟩ := h.node m (by omega) hml
    have e1 : K.getD (nd st.ar m).at_ 0 = rkind (nd st.ar m).text := by rw [List.getD_eq_getElem?_getD, hK]; rfl
    have e2 : L.getD (nd st.ar m).at_ [] = (nd st.ar m).text := by rw [List.getD_eq_getElem?_getD, hL]; rfl
    simp only [Function.comp, e1, e2, ← hw]
    rcases h.letter m hml with ⟨_, k4, lb, _, le⟩ | ⟨le, k4⟩
    · obtain ⟨d, hd, hdl⟩ := letterB_ex lb
      have hdn := isLet_nat hdl
      rw [k4, hd, rlet_of d hdl, le, hd]
      simp only [beq_self_eq_true, Bool.true_and, List.headD_cons]
      by_cases e : d = c
      · subst e; simp
      · have : d.toNat ≠ c.toNat := fun e' => e (UInt8.toNat_inj.1 e')
        rw [beq_eq_false_iff_ne.2 e, beq_eq_false_iff_ne]
        omega
    · rw [le, h0]
      have : (rkind (nd st.ar m).text == 4) = false := by rw [beq_eq_false_iff_ne]; exact k4 (by omega)
      rw [this]; rfl

theorem rnum_sign (s : Str) : (0 ≤ rnum s) ↔ numOk s = true := by
  unfold rnum; split
  · next h => simp [h]
  · next h => simp [h]
theorem Rel.counts (h : Rel L K i E opn st) (s : Str) : rcountsB L K opn s = countsB st.ar st.opn s := by
  unfold rcountsB
  by_cases hn : numOk s = true
  · rw [if_pos ((rnum_sign s).2 hn)]
    have hc : countsB st.ar st.opn s = numB s 1000 := by
      unfold countsB
      split
      · next d c =>
        rw [if_neg]
        rintro ⟨h36, _⟩
        simp only [numOk, List.all_cons, Bool.and_eq_true] at hn
        have := hn.2.1
        simp [isDig, h36] at this
      · rfl
    rw [hc]
    unfold numB rnum
    rw [hn]; simp
  · rw [if_neg (fun e => hn ((rnum_sign s).1 e))]
    have hn' : numOk s = false := by simpa using hn
    have hnb : numB s 1000 = false := by unfold numB; rw [hn']; rfl
    unfold countsB
    split
    · next d c =>
      simp only [List.length_cons, List.length_nil, List.headD_cons, List.drop_succ_cons, List.drop_zero]
      rw [rlet_sign]
      by_cases h36 : d.toNat = 36
      · by_cases hl : isLet c = true
        · rw [if_pos ⟨h36, hl⟩, rlet_of c hl, h.stands c hl]
          simp [h36, letterB, hl]
        · rw [if_neg (fun e => hl e.2), hnb]
          simp [letterB, hl]
      · rw [if_neg (fun e => h36 e.1), hnb]
        simp [h36]
    · next hs =>
      rw [hnb]
      match s, hs with
      | [], _ => rfl
      | [_], _ => rfl
      | [d, c], hs => exact absurd rfl (hs d c)
      | _ :: _ :: _ :: _, _ => simp

/-- what is asked of a line is the same -/
theorem Rel.chk (h : Rel L K i E opn st) {t : Str} (hs : says t = true) (th : Bool) (hth : th = (look st.names (wd (words t) 1)).isSome) :
    rchk L K opn t (rkind t) th = if t = wEnd then (if top st = 0 then 290 else 0) else wrongE st (mkLn i t) := by
  have hop : opn.length = st.opn.length - 1 := by rw [h.opn_, List.length_map, List.length_tail]
  have htop : (opn.length = 0) ↔ top st = 0 := by
    obtain ⟨tl, ho, hz⟩ := h.good.inv.opn0
    rw [hop, ho]
    cases tl with
    | nil => simp [top, ho]
    | cons a r =>
      have ht := h.good.inv.top_mem
      have : top st ∈ a :: r := by
        rw [top_eq h.good.inv.ne]
        simp only [ho]
        rw [List.getLast_cons (by simp)]
        exact List.getLast_mem _
      constructor
      · intro e; simp at e
      · intro e; rw [e] at this; exact absurd this hz
  have hnamed : (look st.names (wd (words t) 1)).isSome = true → namedB (wd (words t) 1) = true := by
    intro e
    obtain ⟨d, hd⟩ := Option.isSome_iff_exists.1 e
    obtain ⟨p, hp, rfl⟩ : ∃ p ∈ st.names, p.2 = d := look_in hd
    have hps : p.1 = wd (words t) 1 := by
      unfold look at hd
      obtain ⟨q, hq, hq2⟩ := Option.map_eq_some_iff.1 hd
      have := List.find?_some hq
      obtain ⟨_, _, _, _, n5, _⟩ := h.names _ (List.mem_of_find?_eq_some hq)
      obtain ⟨_, _, _, _, m5, _⟩ := h.names _ hp
      rw [m5, ← hq2, ← n5]; simpa using this
    obtain ⟨n1, n2, n3, n4, n5, _⟩ := h.names _ hp
    rw [← hps, n5]
    exact h.nmd _ n1 n2 n3
  have hop1 : (0 < opn.length) = (1 < st.opn.length) := by rw [hop]; simp only [eq_iff_iff]; omega
  have e1 : (mkLn i t).ws = words t := rfl
  by_cases q5 : t = wEnd
  · have hk : rkind t = 5 := by rw [q5]; exact rkind_wEnd
    rw [if_pos q5, hk]
    by_cases e : opn.length = 0
    · rw [if_pos (htop.1 e)]; simp [rchk, e]
    · rw [if_neg (fun h => e (htop.2 h))]; simp [rchk, e]
  rw [if_neg q5]
  unfold wrongE
  rw [e1]
  by_cases q1 : wd (words t) 0 = wDef
  · rw [rkind_def hs q1, if_pos q1]
    unfold rchk
    rw [if_pos rfl, hth]
    by_cases c1 : (words t).length ≠ 2
    · rw [if_pos c1, if_pos c1]
    · rw [if_neg c1, if_neg c1]
      simp only [hop1]
  rw [if_neg q1]
  by_cases q2 : wd (words t) 0 = wRepeat
  · rw [rkind_rep hs q2, if_pos q2]
    unfold rchk
    rw [if_neg (by decide), if_pos rfl, h.counts]
  rw [if_neg q2]
  by_cases q3 : wd (words t) 0 = wFor
  · rw [rkind_for hs q3, if_pos q3]
    unfold rchk
    rw [if_neg (by decide), if_neg (by decide), if_pos rfl, h.counts, h.counts]
    by_cases c1 : (words t).length ≠ 4
    · rw [if_pos c1]; simp [c1]
    · rw [if_neg c1]
      have c1' : decide ((words t).length ≠ 4) = false := by simpa using c1
      have c2 : (decide (rlet (wd (words t) 1) < 0) || standsB L K opn (rlet (wd (words t) 1))) = (!letterB (wd (words t) 1) || around st.ar st.opn ((wd (words t) 1).headD 0)) := by
        cases e : letterB (wd (words t) 1) with
        | true =>
          obtain ⟨c, hc, hl⟩ := letterB_ex e
          have := isLet_nat hl
          rw [hc, rlet_of c hl, h.stands c hl]
          have : decide ((c.toNat : Int) - 97 < 0) = false := by simp; omega
          rw [this]; rfl
        | false => rw [rlet_no e]; rfl
      rw [c1', c2, Bool.false_or]
  rw [if_neg q3]
  by_cases q4 : wd (words t) 0 = wUse
  · rw [rkind_use hs q4, if_pos q4]
    unfold rchk
    rw [if_neg (by decide), if_neg (by decide), if_neg (by decide), if_neg (by decide), if_pos rfl, hth]
    cases e : look st.names (wd (words t) 1) with
    | none => simp
    | some d =>
      have hn := hnamed (by rw [e]; rfl)
      rw [hn]; simp
  rw [if_neg q4]
  have h7 := rkind_else hs q1 q2 q3 q4 q5
  unfold rchk
  rw [if_neg (by omega), if_neg (by omega), if_neg (by omega), if_neg (by omega), if_neg (by omega)]
end
end Drl
end

section
namespace Drl
variable {L : List Str} {K : List Nat} {i : Nat} {E : List Int} {opn : List Nat} {st : RSt}

theorem Rel.start (L : List Str) (K : List Nat) (hK : K.length = L.length) : Rel L K 0 (List.replicate L.length (-1)) [] st0 := by
  have h1 : st0.ar.length = 1 := rfl
  refine ⟨RGood.start, hK, by simp, ?_, ?_, ?_, ?_, rfl, ?_, ?_, ?_, ⟨0, [], rfl, .nil _, rfl⟩, ?_, ?_, ?_, fun m h0 hm => by omega, ?_⟩
  · intro m h0 hm; omega
  · intro m hm
    have : m = 0 := by omega
    subst this
    exact .inr ⟨rfl, fun h => absurd h (Nat.lt_irrefl _)⟩
  · intro m m' h0 hm hm'; omega
  · simp [st0]
  · intro m hm h0; simp [st0] at hm; exact absurd hm h0
  · intro m hm h0; simp [st0] at hm; exact absurd hm h0
  · intro j _ hj; rw [List.getElem?_replicate, if_pos hj]
  · rintro j _ ⟨e, he⟩
    rw [List.getElem?_replicate] at he
    split at he
    · have := Option.some.inj he; omega
    · cases he
  · intro p hp; cases hp
  · intro m h0 hm; omega
  · intro m hm d hd
    have : m = 0 := by omega
    subst this
    simp [st0, nd] at hd

theorem Rel.last (h : Rel L K i E opn st) (ht : top st ≠ 0) : opn.getLastD 0 = (nd st.ar (top st)).at_ ∧ opn ≠ [] := by
  obtain ⟨tl, ho, hz⟩ := h.good.inv.opn0
  cases tl with
  | nil => exact absurd (by simp [top, ho]) ht
  | cons a r =>
    rw [h.opn_]
    have e1 : st.opn.tail = a :: r := by rw [ho]; rfl
    rw [e1]
    refine ⟨?_, by simp⟩
    have e2 : top st = (a :: r).getLast (by simp) := by
      rw [top_eq h.good.inv.ne]
      simp only [ho]
      rw [List.getLast_cons (by simp)]
    rw [e2, List.getLastD_eq_getLast?, List.getLast?_map, List.getLast?_eq_some_getLast (by simp)]
    rfl

/-- one line is read -/
theorem Rel.readOk (h : Rel L K i E opn st) {t : Str} (li : L[i]? = some t) (ki : K[i]? = some (rkind t)) (hsy : says t = true) {len : Nat} (hlen : len ≤ 65536) (hx : LnOk len (mkLn i t)) {st' : RSt} (hr : readStep st (mkLn i t) = .ok st') :
    (rkind t = 5 → Rel L K (i + 1) (E.set (opn.getLastD 0) i) opn.dropLast st') ∧ ((rkind t = 2 ∨ rkind t = 3 ∨ rkind t = 4) → Rel L K (i + 1) E (opn ++ [i]) st') ∧ (6 ≤ rkind t → Rel L K (i + 1) E opn st') := by
  have hg := h.good.step hlen hx hr
  have htop := h.good.inv.top_lt
  unfold readStep at hr
  dsimp only at hr
  have e0 : (mkLn i t).text = t := rfl
  have e1 : (mkLn i t).ws = words t := rfl
  have e2 : (mkLn i t).at_ = i := rfl
  rw [e0, e1, e2] at hr
  have hkl : ((rkind t = 3 ∨ rkind t = 6) → (words t).length = 2) ∧ (rkind t = 4 → (words t).length = 4) := by
    have hcase : ∀ (hq : rkind t = 3 ∨ rkind t = 6 ∨ rkind t = 4), wrongE st (mkLn i t) = 0 := by
      intro hq
      have q5 : t ≠ wEnd := by rintro rfl; rw [rkind_wEnd] at hq; omega
      rw [if_neg q5] at hr
      by_cases hw0 : wrongE st (mkLn i t) ≠ 0
      · rw [if_pos hw0] at hr; cases hr
      · omega
    refine ⟨fun hq => ?_, fun hq => ?_⟩
    · rcases hq with hq | hq
      · have := wrongE_rep (x := mkLn i t) (hcase (.inl hq)) ((rkind_inv (t := t)).2.1 hq)
        exact this
      · have hw := hcase (.inr (.inl hq))
        have q := (rkind_inv (t := t)).2.2.2.1 hq
        unfold wrongE at hw
        rw [e1, if_neg (by rw [q]; decide), if_neg (by rw [q]; decide), if_neg (by rw [q]; decide), if_pos q] at hw
        split at hw
        · cases hw
        · next hn =>
          simp only [Bool.or_eq_true, not_or, decide_eq_true_eq, Decidable.not_not] at hn
          exact hn.1
    · have := wrongE_four (x := mkLn i t) (hcase (.inr (.inr hq))) ((rkind_inv (t := t)).2.2.1 hq)
      exact this.1
  by_cases q5 : t = wEnd
  · have hk : rkind t = 5 := by rw [q5]; exact rkind_wEnd
    rw [if_pos q5] at hr
    by_cases ht : top st = 0
    · rw [if_pos ht] at hr; cases hr
    rw [if_neg ht] at hr
    obtain rfl := Except.ok.inj hr
    refine ⟨fun _ => ?_, fun q => by omega, fun q => by omega⟩
    rw [(h.last ht).1]
    have hb : Base L K i E opn st t { at_ := i, text := t, ws := words t } false (st.ar ++ [{ at_ := i, text := t, ws := words t }]) :=
      ⟨h, grown_push _ _ _, li, ki, by omega, rfl, rfl, rfl, rfl, .inr ⟨rfl, by omega⟩, (fun q => by omega), hkl, fun d hd => by cases hd⟩
    refine hb.ended ht _ rfl hg (fun hd => ?_)
    have := h.good.inv.defs (top st) h.good.inv.top_mem ht hd
    exact ⟨this.2, this.1⟩
  rw [if_neg q5] at hr
  by_cases hw0 : wrongE st (mkLn i t) ≠ 0
  · rw [if_pos hw0] at hr; cases hr
  rw [if_neg hw0] at hr
  have hw : wrongE st (mkLn i t) = 0 := by omega
  by_cases q1 : wd (words t) 0 = wDef
  · have hk := rkind_def hsy q1
    rw [if_pos q1] at hr
    obtain rfl := Except.ok.inj hr
    have hnm : namedB (wd (words t) 1) = true := by
      unfold wrongE at hw
      rw [e1, if_pos q1] at hw
      split at hw
      · cases hw
      · split at hw
        · cases hw
        · split at hw
          · cases hw
          · next hn =>
            simp only [Bool.or_eq_true, not_or, Bool.not_eq_true', Bool.not_eq_false] at hn
            exact hn.1
    refine ⟨fun q => by omega, fun _ => ?_, fun q => by omega⟩
    have hb : Base L K i E opn st t { at_ := i, text := t, ws := words t } false (st.ar ++ [{ at_ := i, text := t, ws := words t }]) :=
      ⟨h, grown_push _ _ _, li, ki, by omega, rfl, rfl, rfl, rfl, .inr ⟨rfl, by omega⟩, fun _ => hnm, hkl, fun d hd => by cases hd⟩
    exact hb.opened (.inl hk) ⟨(fun q => by cases q), fun q => absurd hk q⟩ hg
  rw [if_neg q1] at hr
  by_cases q3 : wd (words t) 0 = wFor
  · have hk := rkind_for hsy q3
    rw [if_pos q3] at hr
    obtain rfl := Except.ok.inj hr
    have h4 := wrongE_four hw q3
    rw [e1] at h4
    refine ⟨fun q => by omega, fun _ => ?_, fun q => by omega⟩
    have hb : Base L K i E opn st t { at_ := i, text := t, ws := words t, letter := (wd (words t) 1).headD 0 } true (addTo (st.ar ++ [{ at_ := i, text := t, ws := words t, letter := (wd (words t) 1).headD 0 }]) (top st) st.ar.length) :=
      ⟨h, grown_join _ _ _ htop, li, ki, by omega, rfl, rfl, rfl, rfl, .inl ⟨hk, h4.2, by omega, rfl⟩, (fun q => by omega), hkl, fun d hd => by cases hd⟩
    exact hb.opened (.inr (.inr hk)) ⟨fun _ => by omega, fun _ => rfl⟩ hg
  rw [if_neg q3] at hr
  by_cases q2 : wd (words t) 0 = wRepeat
  · have hk := rkind_rep hsy q2
    rw [if_pos q2] at hr
    obtain rfl := Except.ok.inj hr
    refine ⟨fun q => by omega, fun _ => ?_, fun q => by omega⟩
    have hb : Base L K i E opn st t { at_ := i, text := t, ws := words t } true (addTo (st.ar ++ [{ at_ := i, text := t, ws := words t }]) (top st) st.ar.length) :=
      ⟨h, grown_join _ _ _ htop, li, ki, by omega, rfl, rfl, rfl, rfl, .inr ⟨rfl, by omega⟩, (fun q => by omega), hkl, fun d hd => by cases hd⟩
    exact hb.opened (.inr (.inl hk)) ⟨fun _ => by omega, fun _ => rfl⟩ hg
  rw [if_neg q2] at hr
  by_cases q4 : wd (words t) 0 = wUse
  · have hk := rkind_use hsy q4
    rw [if_pos q4] at hr
    obtain rfl := Except.ok.inj hr
    refine ⟨fun q => by omega, fun q => by omega, fun _ => ?_⟩
    have hb : Base L K i E opn st t { at_ := i, text := t, ws := words t, use := look st.names (wd (words t) 1) } true (addTo (st.ar ++ [{ at_ := i, text := t, ws := words t, use := look st.names (wd (words t) 1) }]) (top st) st.ar.length) :=
      ⟨h, grown_join _ _ _ htop, li, ki, by omega, rfl, rfl, rfl, rfl, .inr ⟨rfl, by omega⟩, (fun q => by omega), hkl, fun d hd => by
        refine ⟨hk, ?_⟩
        dsimp only at hd
        obtain ⟨p, hp, rfl⟩ := look_in hd
        obtain ⟨_, _, _, _, n5, n6, _⟩ := h.names _ hp
        unfold look at hd
        obtain ⟨q, hq, hq2⟩ := Option.map_eq_some_iff.1 hd
        have hqs := List.find?_some hq
        have hqm := List.mem_of_find?_eq_some hq
        have : q.1 = wd (words t) 1 := by simpa using hqs
        rw [← this, ← hq2]
        exact hqm⟩
    exact hb.joined (by omega) hg
  rw [if_neg q4] at hr
  obtain rfl := Except.ok.inj hr
  have hk := rkind_else hsy q1 q2 q3 q4 q5
  refine ⟨fun q => by omega, fun q => by omega, fun _ => ?_⟩
  have hb : Base L K i E opn st t { at_ := i, text := t, ws := words t } true (addTo (st.ar ++ [{ at_ := i, text := t, ws := words t }]) (top st) st.ar.length) :=
    ⟨h, grown_join _ _ _ htop, li, ki, by omega, rfl, rfl, rfl, rfl, .inr ⟨rfl, by omega⟩, (fun q => by omega), hkl, fun d hd => by cases hd⟩
  exact hb.joined (by omega) hg

/-- .. or is wrong -/
theorem Rel.readStep_chk (h : Rel L K i E opn st) {t : Str} (hsy : says t = true) (th : Bool) (hth : th = (look st.names (wd (words t) 1)).isSome) :
    (rchk L K opn t (rkind t) th = 0 → ∃ st', readStep st (mkLn i t) = .ok st') ∧ (rchk L K opn t (rkind t) th ≠ 0 → readStep st (mkLn i t) = .error (i, rchk L K opn t (rkind t) th)) := by
  rw [h.chk hsy th hth]
  unfold readStep
  dsimp only
  have e0 : (mkLn i t).text = t := rfl
  have e2 : (mkLn i t).at_ = i := rfl
  rw [e0, e2]
  by_cases q5 : t = wEnd
  · rw [if_pos q5, if_pos q5]
    by_cases ht : top st = 0
    · rw [if_pos ht, if_pos ht]; exact ⟨(fun h => by cases h), fun _ => rfl⟩
    · rw [if_neg ht, if_neg ht]; exact ⟨fun _ => ⟨_, rfl⟩, fun h => absurd rfl h⟩
  · rw [if_neg q5, if_neg q5]
    by_cases hw : wrongE st (mkLn i t) ≠ 0
    · rw [if_pos hw]; exact ⟨fun h => absurd h hw, fun _ => rfl⟩
    · rw [if_neg hw]
      refine ⟨fun _ => ?_, fun h => absurd h hw⟩
      repeat' split
      all_goals exact ⟨_, rfl⟩

/-! ### the lines that are left -/
def remK : Nat → List Str → List Nat → List Ln
  | i, t :: r, k :: ks => if 2 ≤ k then mkLn i t :: remK (i + 1) r ks else remK (i + 1) r ks
  | _, _, _ => []
/-- the kinds behind the head -/
def kindsT (L : List Str) : List Nat := L.map rkind
/-- the kinds, the head among them -/
def kindsF : List Str → List Nat
  | [] => []
  | t :: r => if rkind t = 0 then 0 :: kindsF r else 1 :: kindsT r
theorem kindsF_len : ∀ L : List Str, (kindsF L).length = L.length
  | [] => rfl
  | t :: r => by
    unfold kindsF; split
    · simp [kindsF_len r]
    · simp [kindsT]
theorem rkind_one (t : Str) : rkind t ≠ 1 := by
  unfold rkind
  repeat' split
  all_goals omega
theorem rkind_zero {t : Str} (h : says t = false) : rkind t = 0 := by unfold rkind; rw [if_pos h]
theorem rkind_pos {t : Str} (h : says t = true) : 2 ≤ rkind t := by
  unfold rkind
  rw [if_neg (by rw [h]; decide)]
  repeat' split
  all_goals omega
theorem remK_T : ∀ (R : List Str) (i : Nat), remK i (R.map trim) (kindsT (R.map trim)) = linesFrom i R
  | [], _ => rfl
  | s :: r, i => by
    have ih := remK_T r (i + 1)
    simp only [List.map_cons, kindsT, remK, linesFrom] at ih ⊢
    cases e : says (trim s) with
    | true => rw [if_pos (rkind_pos e), if_pos rfl, ih]
    | false => rw [if_neg (by rw [rkind_zero e]; omega), if_neg (by decide), ih]
theorem remK_F : ∀ (R : List Str) (i : Nat), remK i (R.map trim) (kindsF (R.map trim)) = (linesFrom i R).tail
  | [], _ => rfl
  | s :: r, i => by
    simp only [List.map_cons, kindsF, linesFrom]
    cases e : says (trim s) with
    | true => rw [if_neg (by have := rkind_pos e; omega), if_pos rfl]; simp only [remK]; rw [if_neg (by omega), remK_T]; rfl
    | false => rw [if_pos (rkind_zero e), if_neg (by decide)]; simp only [remK]; rw [if_neg (by omega), remK_F r (i + 1)]
end Drl
end

section
/-! lines with numbers put in; no program in sight -/
/-! lines with numbers put in; no program in sight -/
namespace Drl

theorem filled_app (v : Nums) : ∀ (u s : Str), (∀ c ∈ u, c.toNat ≠ 36) → filled v (u ++ s) = u ++ filled v s
  | [], s, _ => rfl
  | c :: u, s, h => by
    rw [List.cons_append, filled_plain v c (u ++ s) (h c (by simp)), filled_app v u s (fun x hx => h x (by simp [hx])), List.cons_append]
theorem words_first : ∀ (t : Str), t = wd (words t) 0 ∨ ∃ r, t = wd (words t) 0 ++ 32 :: r
  | [] => .inl rfl
  | c :: r => by
    have ih := words_first r
    unfold words at ih ⊢
    by_cases h : c = 32
    · subst h
      right
      refine ⟨r, ?_⟩
      simp [cutAt, wd]
    · cases hc : cutAt 32 r with
      | nil => exact absurd hc (cutAt_ne 32 r)
      | cons w ws =>
        have e : cutAt 32 (c :: r) = (c :: w) :: ws := by simp [cutAt, h, hc]
        rw [hc] at ih
        rw [e]
        simp only [wd, List.getD_cons_zero] at ih ⊢
        rcases ih with ih | ⟨q, ih⟩
        · left; rw [← ih]
        · right; exact ⟨q, by conv => lhs; rw [ih]
                              simp⟩
/-- the rest of an expectation -/
theorem want_rest (v : Nums) (t : Str) (h : wd (words t) 0 = wExpect) :
    filled v (Go.Lib.trimPrefix (t.drop 6) [32]) = (filled v t).drop 7 ∧ ((filled v t).length ≤ 7 → (filled v t).drop 7 = []) := by
  refine ⟨?_, fun hl => List.drop_eq_nil_of_le hl⟩
  have h36 : ∀ c ∈ wExpect, c.toNat ≠ 36 := by decide
  rcases words_first t with e | ⟨r, e⟩
  · rw [h] at e
    subst e
    have e1 : filled v wExpect = wExpect := by
      have := filled_app v wExpect [] h36
      rw [filled_nil] at this
      simpa using this
    rw [e1]
    have e2 : Go.Lib.trimPrefix (List.drop 6 wExpect) [32] = [] := by decide
    rw [e2, filled_nil]; rfl
  · rw [h] at e
    subst e
    rw [filled_app v wExpect _ h36, filled_plain v 32 r (by decide)]
    have e2 : Go.Lib.trimPrefix (List.drop 6 (wExpect ++ 32 :: r)) [32] = r := by
      have : List.drop 6 (wExpect ++ 32 :: r) = 32 :: r := rfl
      rw [this]
      simp [Go.Lib.trimPrefix, Go.Lib.hasPrefix, List.isPrefixOf]
    rw [e2]; rfl

/-- the words of a line with numbers put in are the words with numbers put in -/
theorem dec_no32 (n : Nat) : ∀ c ∈ Go.Lib.decDigits n, c ≠ 32 := by
  intro c hc
  have := isDig_dec n
  rw [List.all_eq_true] at this
  have := this c hc
  rintro rfl
  exact absurd this (by decide)
theorem cutAt_app (u s : Str) (h : ∀ c ∈ u, c ≠ 32) : ∃ w ws, cutAt 32 s = w :: ws ∧ cutAt 32 (u ++ s) = (u ++ w) :: ws := by
  induction u with
  | nil =>
    cases e : cutAt 32 s with
    | nil => exact absurd e (cutAt_ne 32 s)
    | cons w ws => exact ⟨w, ws, rfl, e⟩
  | cons c u ih =>
    obtain ⟨w, ws, h1, h2⟩ := ih (fun x hx => h x (by simp [hx]))
    refine ⟨w, ws, h1, ?_⟩
    have hc := h c (by simp)
    rw [List.cons_append]
    simp [cutAt, hc, h2]
theorem filled_words (v : Nums) (hv : LetOnly v) : ∀ (n : Nat) (t : Str), t.length ≤ n → cutAt 32 (filled v t) = (cutAt 32 t).map (filled v) := by
  intro n
  induction n with
  | zero =>
    intro t ht
    have : t = [] := List.eq_nil_of_length_eq_zero (by omega)
    subst this
    rw [filled_nil]; simp [cutAt, filled_nil]
  | succ n ih =>
    intro t ht
    cases t with
    | nil => rw [filled_nil]; simp [cutAt, filled_nil]
    | cons d r =>
      by_cases h36 : d.toNat = 36
      · have hd32 : d ≠ 32 := by rintro rfl; simp at h36
        cases r with
        | nil =>
          rw [filled_last, filled_nil]
          simp [cutAt, hd32, filled_last, filled_nil]
        | cons c q =>
          by_cases hp : c.toNat < 128 ∧ 0 ≤ v c.toNat
          · have hc32 : c ≠ 32 := by
              rintro rfl
              have := hv 32 (.inl (by decide))
              have h2 := hp.2
              simp at h2
              omega
            rw [filled_put v d c q h36 hp.1 hp.2]
            obtain ⟨w, ws, h1, h2⟩ := cutAt_app (Go.Lib.decDigits (v c.toNat).toNat) (filled v q) (dec_no32 _)
            rw [h2]
            rw [ih q (by simp at ht; omega)] at h1
            have hq : ∃ w' ws', cutAt 32 q = w' :: ws' := by
              cases e : cutAt 32 q with
              | nil => exact absurd e (cutAt_ne 32 q)
              | cons a b => exact ⟨a, b, rfl⟩
            obtain ⟨w', ws', hq⟩ := hq
            rw [hq] at h1
            simp only [List.map_cons, List.cons.injEq] at h1
            have e : cutAt 32 (d :: c :: q) = (d :: c :: w') :: ws' := by simp [cutAt, hd32, hc32, hq]
            rw [e, List.map_cons, filled_put v d c w' h36 hp.1 hp.2, h1.1, h1.2]
          · rw [filled_not v d c q hp]
            have ih2 := ih (c :: q) (by simp at ht ⊢; omega)
            have hq : ∃ w' ws', cutAt 32 (c :: q) = w' :: ws' := by
              cases e : cutAt 32 (c :: q) with
              | nil => exact absurd e (cutAt_ne 32 _)
              | cons a b => exact ⟨a, b, rfl⟩
            obtain ⟨w', ws', hq⟩ := hq
            have e : cutAt 32 (d :: c :: q) = (d :: w') :: ws' := by
              show (if d = 32 then _ else _) = _
              rw [if_neg hd32, hq]
            rw [e]
            have e2 : cutAt 32 (d :: filled v (c :: q)) = (d :: filled v w') :: ws'.map (filled v) := by
              show (if d = 32 then _ else _) = _
              rw [if_neg hd32, ih2, hq]; rfl
            rw [e2, List.map_cons]
            congr 1
            -- the word begins with c, or is empty
            by_cases hc32 : c = 32
            · have : w' = [] := by
                subst hc32
                simp [cutAt] at hq
                exact hq.1
              subst this
              rw [filled_last, filled_nil]
            · have : ∃ w'', w' = c :: w'' := by
                cases e : cutAt 32 q with
                | nil => exact absurd e (cutAt_ne 32 q)
                | cons a b =>
                  simp [cutAt, hc32, e] at hq
                  exact ⟨a, hq.1.symm⟩
              obtain ⟨w'', rfl⟩ := this
              rw [filled_not v d c w'' hp]
      · rw [filled_plain v d r h36]
        by_cases h32 : d = 32
        · subst h32
          simp only [cutAt, if_true, List.map_cons, filled_nil]
          rw [ih r (by simp at ht; omega)]
        · have ih2 := ih r (by simp at ht; omega)
          have hq : ∃ w' ws', cutAt 32 r = w' :: ws' := by
            cases e : cutAt 32 r with
            | nil => exact absurd e (cutAt_ne 32 _)
            | cons a b => exact ⟨a, b, rfl⟩
          obtain ⟨w', ws', hq⟩ := hq
          have e : cutAt 32 (d :: r) = (d :: w') :: ws' := by
            show (if d = 32 then _ else _) = _
            rw [if_neg h32, hq]
          have e2 : cutAt 32 (d :: filled v r) = (d :: filled v w') :: ws'.map (filled v) := by
            show (if d = 32 then _ else _) = _
            rw [if_neg h32, ih2, hq]; rfl
          rw [e, e2, List.map_cons, filled_plain v d w' h36]
theorem words_filled (v : Nums) (hv : LetOnly v) (t : Str) : words (filled v t) = (words t).map (filled v) := filled_words v hv t.length t (Nat.le_refl _)
theorem wd_filled (v : Nums) (hv : LetOnly v) (t : Str) (i : Nat) : wd (words (filled v t)) i = filled v (wd (words t) i) := by
  rw [words_filled v hv]
  unfold wd
  rw [List.getD_eq_getElem?_getD, List.getD_eq_getElem?_getD, List.getElem?_map]
  cases (words t)[i]? with
  | none => simp [filled_nil]
  | some x => rfl
theorem cnt_rnum {v : Nums} {s : Str} {n : Int} (h : cnt v s = some n) : rnum (filled v s) = n := by
  unfold cnt at h
  unfold rnum
  split at h
  · next hok => rw [if_pos hok]; exact Option.some.inj h
  · cases h
end Drl
end

section
/-! tasks taken apart; no program in sight -/
/-! tasks taken apart; no program in sight -/
namespace Drl

theorem run_times {ar : List Nd} {k n : Nat} {body : List Nat} {v : Nums} {a b : Int} {st : PSt} {q : Except Err PSt} (h : run ar k (.times n body v a b) st = some q) :
    match turn (nd ar n).at_ st with
    | .error e => q = .error e
    | .ok st1 => ∃ k', k' < k ∧ run ar k' (.loop n body v a b) st1 = some q := by
  cases k with
  | zero => simp [run] at h
  | succ k =>
    rw [run] at h
    cases e : turn (nd ar n).at_ st with
    | error x => rw [e] at h; exact (Option.some.inj h).symm
    | ok st1 => rw [e] at h; exact ⟨k, by omega, h⟩
theorem run_loop {ar : List Nd} {k n : Nat} {body : List Nat} {v : Nums} {a b : Int} {st : PSt} {q : Except Err PSt} (h : run ar k (.loop n body v a b) st = some q) :
    (b < a → q = .ok st) ∧ (a ≤ b → match turn (nd ar n).at_ st with
    | .error e => q = .error e
    | .ok st1 => ∃ k' q', k' < k ∧ run ar k' (.seq body (if (nd ar n).letter.toNat ≠ 0 then upd v (nd ar n).letter.toNat a else v)) st1 = some q' ∧ match q' with
      | .error e => q = .error e
      | .ok st2 => run ar k' (.loop n body v (a + 1) b) st2 = some q) := by
  cases k with
  | zero => simp [run] at h
  | succ k =>
    rw [run] at h
    by_cases hab : a ≤ b
    · rw [if_pos hab] at h
      refine ⟨fun h => by omega, fun _ => ?_⟩
      cases e : turn (nd ar n).at_ st with
      | error x => rw [e] at h; exact (Option.some.inj h).symm
      | ok st1 =>
        rw [e] at h
        dsimp only at h
        cases e2 : run ar k (.seq body (if (nd ar n).letter.toNat ≠ 0 then upd v (nd ar n).letter.toNat a else v)) st1 with
        | none => rw [e2] at h; cases h
        | some q' =>
          rw [e2] at h
          refine ⟨k, q', by omega, e2, ?_⟩
          cases q' with
          | error x => exact (Option.some.inj h).symm
          | ok st2 => exact h
    · rw [if_neg hab] at h
      exact ⟨fun _ => (Option.some.inj h).symm, fun h => absurd h hab⟩
theorem run_use {ar : List Nd} {k n : Nat} {body : List Nat} {st : PSt} {q : Except Err PSt} (h : run ar k (.times n body noNums 1 1) st = some q) (hl : (nd ar n).letter = 0) :
    match turn (nd ar n).at_ st with
    | .error e => q = .error e
    | .ok st1 => match turn (nd ar n).at_ st1 with
      | .error e => q = .error e
      | .ok st2 => ∃ k', k' < k ∧ run ar k' (.seq body noNums) st2 = some q := by
  have h1 := run_times h
  cases e : turn (nd ar n).at_ st with
  | error x => rw [e] at h1; exact h1
  | ok st1 =>
    rw [e] at h1
    obtain ⟨k1, hk1, h1⟩ := h1
    have h2 := (run_loop h1).2 (by omega)
    dsimp only
    cases e2 : turn (nd ar n).at_ st1 with
    | error x => rw [e2] at h2; exact h2
    | ok st2 =>
      rw [e2] at h2
      obtain ⟨k2, q', hk2, h3, h4⟩ := h2
      rw [hl, if_neg (by decide)] at h3
      refine ⟨k2, by omega, ?_⟩
      cases q' with
      | error x => rw [h4]; exact h3
      | ok st3 =>
        have h5 := (run_loop h4).1 (by omega)
        rw [h5]; exact h3
end Drl
end

section
/-! the kinds as they are found, line by line; no program in sight -/
/-! the kinds as they are found, line by line; no program in sight -/
namespace Drl
/-- no line has said anything up to line i -/
structure NoHead (raw : List Str) (i : Nat) : Prop where
  kinds : (kindsF (raw.map trim)).drop i = kindsF ((raw.map trim).drop i)
  left : linesFrom i (raw.drop i) = linesFrom 0 raw
/-- the head is known -/
structure HasHead (raw : List Str) (i : Nat) : Prop where
  kinds : (kindsF (raw.map trim)).drop i = kindsT ((raw.map trim).drop i)
  good : headB (linesFrom 0 raw) = true

section
variable {raw : List Str} {i : Nat} {t : Str}
theorem drop_line (h : (raw.map trim)[i]? = some t) : (raw.map trim).drop i = t :: (raw.map trim).drop (i + 1) ∧ ∃ r, raw.drop i = r :: raw.drop (i + 1) ∧ trim r = t := by
  obtain ⟨h1, h2⟩ := List.getElem?_eq_some_iff.1 h
  refine ⟨by rw [List.drop_eq_getElem_cons h1, h2], ?_⟩
  have h3 : i < raw.length := by simpa using h1
  refine ⟨raw[i], List.drop_eq_getElem_cons h3, ?_⟩
  rw [← h2, List.getElem_map]
theorem get_of_drop {l : List Nat} {k : Nat} {r : List Nat} (h : l.drop i = k :: r) : l[i]? = some k ∧ l.drop (i + 1) = r := by
  have h1 : (l.drop i)[0]? = some k := by rw [h]; rfl
  rw [List.getElem?_drop] at h1
  refine ⟨by simpa using h1, ?_⟩
  rw [← List.drop_drop, h]; rfl
theorem NoHead.start : NoHead raw 0 := ⟨by rw [List.drop_zero, List.drop_zero], by rw [List.drop_zero]⟩
theorem NoHead.skip (h : NoHead raw i) (ht : (raw.map trim)[i]? = some t) (h0 : rkind t = 0) : (kindsF (raw.map trim))[i]? = some 0 ∧ NoHead raw (i + 1) := by
  obtain ⟨h1, r, h2, h3⟩ := drop_line ht
  have hk := h.kinds
  rw [h1, kindsF, if_pos h0] at hk
  obtain ⟨a, b⟩ := get_of_drop hk
  refine ⟨a, b, ?_⟩
  have hl := h.left
  rw [h2, linesFrom, h3] at hl
  have hs : says t = false := by
    cases e : says t with
    | false => rfl
    | true => have := rkind_pos e; omega
  rw [hs, if_neg (by decide)] at hl
  exact hl
theorem NoHead.found (h : NoHead raw i) (ht : (raw.map trim)[i]? = some t) (h0 : rkind t ≠ 0) : (kindsF (raw.map trim))[i]? = some 1 ∧ (∃ r, linesFrom 0 raw = mkLn i t :: r) ∧ (headB (linesFrom 0 raw) = true → HasHead raw (i + 1)) := by
  obtain ⟨h1, r, h2, h3⟩ := drop_line ht
  have hk := h.kinds
  rw [h1, kindsF, if_neg h0] at hk
  obtain ⟨a, b⟩ := get_of_drop hk
  have hl := h.left
  rw [h2, linesFrom, h3, if_pos (rkind_says h0)] at hl
  exact ⟨a, ⟨_, hl.symm⟩, fun hb => ⟨b, hb⟩⟩
theorem HasHead.step (h : HasHead raw i) (ht : (raw.map trim)[i]? = some t) : (kindsF (raw.map trim))[i]? = some (rkind t) ∧ HasHead raw (i + 1) := by
  obtain ⟨h1, r, h2, h3⟩ := drop_line ht
  have hk := h.kinds
  rw [h1] at hk
  obtain ⟨a, b⟩ := get_of_drop (k := rkind t) (r := kindsT ((raw.map trim).drop (i + 1))) hk
  exact ⟨a, b, h.good⟩
theorem NoHead.last (h : NoHead raw i) (hi : raw.length ≤ i) : linesFrom 0 raw = [] := by
  have := h.left
  rw [List.drop_eq_nil_of_le hi] at this
  exact this.symm
/-- is it a head? -/
theorem head_two {x : Ln} {r : List Ln} (h : headB (x :: r) = false) : ¬ (x.ws.length = 2 ∧ wd x.ws 0 = wClients) ∨ rnum (wd x.ws 1) < 1 ∨ 64 < rnum (wd x.ws 1) := by
  by_cases h1 : x.ws.length = 2 ∧ wd x.ws 0 = wClients
  · right
    simp only [headB, decide_eq_true h1, Bool.true_and, numB, numN] at h
    unfold rnum
    by_cases hn : numOk (wd x.ws 1) = true
    · simp only [hn, if_true, Bool.true_and, Bool.and_eq_false_iff, decide_eq_false_iff_not] at h ⊢
      omega
    · rw [if_neg hn]; omega
  · exact .inl h1
theorem head_yes {x : Ln} {r : List Ln} (h1 : x.ws.length = 2) (h2 : wd x.ws 0 = wClients) (h3 : ¬ rnum (wd x.ws 1) < 1) (h4 : ¬ 64 < rnum (wd x.ws 1)) : headB (x :: r) = true ∧ headN (x :: r) = rnum (wd x.ws 1) := by
  unfold rnum at h3 h4 ⊢
  by_cases hn : numOk (wd x.ws 1) = true
  · rw [if_pos hn] at h3 h4 ⊢
    have e : x.ws.length = 2 ∧ wd x.ws 0 = wClients := ⟨h1, h2⟩
    constructor
    · simp only [headB, decide_eq_true e, Bool.true_and, numB, numN, hn, if_true, Bool.and_eq_true, decide_eq_true_eq]
      omega
    · simp only [headN, if_pos e, numN, if_pos hn]
  · rw [if_neg hn] at h3
    omega
theorem head_no {x : Ln} {r : List Ln} (h : ¬ (x.ws.length = 2 ∧ wd x.ws 0 = wClients) ∨ rnum (wd x.ws 1) < 1 ∨ 64 < rnum (wd x.ws 1)) : headB (x :: r) = false := by
  rcases h with h | h
  · simp [headB, h]
  · by_cases hn : numOk (wd x.ws 1) = true
    · unfold rnum at h
      rw [if_pos hn] at h
      simp only [headB, numB, numN, hn, if_true, Bool.true_and, Bool.and_eq_false_iff, decide_eq_false_iff_not]
      omega
    · have hf : numOk (wd x.ws 1) = false := by simpa using hn
      simp [headB, numB, hf]
end
end Drl
end

section
/-! a drill without blocks, as a text; no program in sight -/
/-! a drill without blocks, as a text; no program in sight -/
namespace Drl
/-- a step as a line -/
def flatLine (x : Dr) : Str := (if x.want = false then x.text else if x.text = [] then wExpect else wExpect ++ 32 :: x.text) ++ [10]
def flatHead (n : Nat) : Str := wClients ++ 32 :: Go.Lib.decDigits n ++ [10]
def flatAll (l : List Dr) : Str := l.flatMap flatLine
def flatText (l : List Dr) (n : Nat) : Str := flatHead n ++ flatAll l
theorem flatAll_snoc (l : List Dr) (x : Dr) : flatAll (l ++ [x]) = flatAll l ++ flatLine x := by simp [flatAll]
theorem flatAll_take {l : List Dr} {m : Nat} {x : Dr} (h : l[m]? = some x) : flatAll (l.take (m + 1)) = flatAll (l.take m) ++ flatLine x := by
  obtain ⟨h1, h2⟩ := List.getElem?_eq_some_iff.1 h
  rw [List.take_succ_eq_append_getElem h1, h2, flatAll_snoc]
theorem flatLine_len (x : Dr) (h : x.text.length ≤ 393216) : (flatLine x).length ≤ 393300 := by
  unfold flatLine
  split
  · simp; omega
  · split
    · simp [wExpect]
    · simp [wExpect]; omega
theorem flatAll_len : ∀ (l : List Dr), (∀ x ∈ l, x.text.length ≤ 393216) → (flatAll l).length ≤ 393300 * l.length
  | [], _ => by simp [flatAll]
  | x :: r, h => by
    have ih := flatAll_len r (fun y hy => h y (by simp [hy]))
    have hx := flatLine_len x (h x (by simp))
    have e : flatAll (x :: r) = flatLine x ++ flatAll r := rfl
    rw [e, List.length_append, List.length_cons]
    omega
theorem flatHead_len (n : Nat) (h : n ≤ 64) : (flatHead n).length ≤ 16 := by
  have := decDigits_len 1 n (by omega)
  simp [flatHead, wClients]
  omega
end Drl
end
