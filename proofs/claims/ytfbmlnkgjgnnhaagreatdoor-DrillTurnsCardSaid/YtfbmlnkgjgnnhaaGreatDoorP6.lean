import Derived.Test.YtfbmlnkgjgnnhaaGreatDoorP5
/-! what reading leaves is good to be gone through; no program in sight -/
namespace Drl

/-- a node that may stand in a list -/
structure Kind (n : Nd) : Prop where
  ws : 1 ≤ n.ws.length
  small : ∀ t ∈ n.ws, t.length ≤ 65536
  rep : wd n.ws 0 = wRepeat → n.ws.length = 2
  for_ : wd n.ws 0 = wFor → n.ws.length = 4
  use : wd n.ws 0 = wUse → ∃ d, n.use = some d
  exp : wd n.ws 0 = wExpect → 6 ≤ n.text.length
  text : n.text.length ≤ 65536

structure GoodAr (ar : List Nd) : Prop where
  pos : 0 < ar.length
  body : ∀ i, i < ar.length → ∀ n ∈ (nd ar i).body, n < ar.length ∧ Kind (nd ar n)
  uselt : ∀ i, i < ar.length → ∀ d, (nd ar i).use = some d → d < ar.length
  blen : ∀ i, i < ar.length → (nd ar i).body.length + 1 ≤ ar.length
  letter : ∀ i, i < ar.length → (nd ar i).letter.toNat < 128

theorem GoodAr.start : GoodAr st0.ar := by
  have hz : ∀ {i}, i < st0.ar.length → i = 0 := fun h => by simp [st0] at h; omega
  refine ⟨by decide, ?_, ?_, ?_, ?_⟩
  · intro i hi n hn; obtain rfl := hz hi; simp [st0, nd] at hn
  · intro i hi d hd; obtain rfl := hz hi; simp [st0, nd] at hd
  · intro i hi; obtain rfl := hz hi; simp [st0, nd]
  · intro i hi; obtain rfl := hz hi; decide

theorem snoc_lt {ar : List Nd} {x : Nd} {i : Nat} (h : i < (ar ++ [x]).length) : i = ar.length ∨ i < ar.length := by simp at h; omega

theorem GoodAr.push {ar : List Nd} (h : GoodAr ar) (x : Nd) (hb : x.body = []) (hl : x.letter.toNat < 128) (hu : ∀ d, x.use = some d → d < ar.length) : GoodAr (ar ++ [x]) := by
  refine ⟨by simp, ?_, ?_, ?_, ?_⟩
  · intro i hi n hn
    rcases snoc_lt hi with rfl | hi
    · rw [nd_last, hb] at hn; cases hn
    · rw [nd_append hi] at hn
      obtain ⟨h1, h2⟩ := h.body i hi n hn
      exact ⟨by simp; omega, by rw [nd_append h1]; exact h2⟩
  · intro i hi d hd
    rcases snoc_lt hi with rfl | hi
    · rw [nd_last] at hd; have := hu d hd; simp; omega
    · rw [nd_append hi] at hd; have := h.uselt i hi d hd; simp; omega
  · intro i hi
    rcases snoc_lt hi with rfl | hi
    · rw [nd_last, hb]; simp
    · rw [nd_append hi]; have := h.blen i hi; simp; omega
  · intro i hi
    rcases snoc_lt hi with rfl | hi
    · rw [nd_last]; exact hl
    · rw [nd_append hi]; exact h.letter i hi

theorem Kind.addTo {ar : List Nd} {i k j : Nat} (h : Kind (nd ar j)) (hj : j < ar.length) : Kind (nd (addTo ar i k) j) := by
  rw [nd_addTo hj]
  split
  · exact ⟨h.ws, h.small, h.rep, h.for_, h.use, h.exp, h.text⟩
  · exact h

theorem GoodAr.join {ar : List Nd} (h : GoodAr ar) (x : Nd) (hk : Kind x) (hb : x.body = []) (hl : x.letter.toNat < 128) (hu : ∀ d, x.use = some d → d < ar.length) (i : Nat) (hi : i < ar.length) : GoodAr (addTo (ar ++ [x]) i ar.length) := by
  have g := h.push x hb hl hu
  have hL : ar.length < (ar ++ [x]).length := by simp
  refine ⟨by rw [addTo_len]; exact g.pos, ?_, ?_, ?_, ?_⟩
  · intro j hj n hn
    rw [addTo_len] at hj ⊢
    rw [nd_addTo hj] at hn
    have key : n ∈ (nd (ar ++ [x]) j).body ∨ n = ar.length := by
      split at hn
      · simp only [List.mem_append, List.mem_singleton] at hn; exact hn
      · exact .inl hn
    rcases key with h1 | rfl
    · obtain ⟨h2, h3⟩ := g.body j hj n h1
      exact ⟨h2, h3.addTo h2⟩
    · exact ⟨hL, Kind.addTo (by rw [nd_last]; exact hk) hL⟩
  · intro j hj d hd
    rw [addTo_len] at hj ⊢
    rw [nd_addTo hj] at hd
    have : (nd (ar ++ [x]) j).use = some d := by split at hd <;> exact hd
    exact g.uselt j hj d this
  · intro j hj
    rw [addTo_len] at hj ⊢
    rw [nd_addTo hj]
    split
    · next e =>
      subst e
      have := h.blen j hi
      simp only [List.length_append, List.length_singleton, nd_append hi]
      omega
    · exact g.blen j hj
  · intro j hj
    rw [addTo_len] at hj
    rw [nd_addTo hj]
    have := g.letter j hj
    split <;> exact this

theorem wrongE_rep {st : RSt} {x : Ln} (h : wrongE st x = 0) (q : wd x.ws 0 = wRepeat) : x.ws.length = 2 := by
  unfold wrongE at h
  rw [if_neg (by rw [q]; decide), if_pos q] at h
  split at h
  · cases h
  · next hn =>
    simp only [Bool.or_eq_true, not_or, decide_eq_true_eq, Decidable.not_not] at hn
    exact hn.1
theorem wrongE_four {st : RSt} {x : Ln} (h : wrongE st x = 0) (q : wd x.ws 0 = wFor) : x.ws.length = 4 ∧ letterB (wd x.ws 1) = true := by
  unfold wrongE at h
  rw [if_neg (by rw [q]; decide), if_neg (by rw [q]; decide), if_pos q] at h
  split at h
  · cases h
  · next hn =>
    simp only [Bool.or_eq_true, not_or, Bool.not_eq_true', decide_eq_true_eq, Decidable.not_not, Bool.not_eq_true] at hn
    exact ⟨hn.1.1, by simpa using hn.1.2⟩
theorem wrongE_known {st : RSt} {x : Ln} (h : wrongE st x = 0) (q : wd x.ws 0 = wUse) : ∃ i, look st.names (wd x.ws 1) = some i := by
  unfold wrongE at h
  rw [if_neg (by rw [q]; decide), if_neg (by rw [q]; decide), if_neg (by rw [q]; decide), if_pos q] at h
  split at h
  · cases h
  · next hn =>
    simp only [Bool.or_eq_true, not_or, decide_eq_true_eq, Decidable.not_not] at hn
    cases e : look st.names (wd x.ws 1) with
    | none => rw [e] at hn; simp at hn
    | some i => exact ⟨i, rfl⟩
theorem look_mem {names : List (Str × Nat)} {n i : Nat} {s : Str} (h : ∀ p ∈ names, p.2 < n) (hi : look names s = some i) : i < n := by
  unfold look at hi
  obtain ⟨p, hp, rfl⟩ := Option.map_eq_some_iff.1 hi
  exact h p (List.mem_of_find?_eq_some hp)
theorem letterB_lt {s : Str} (h : letterB s = true) : (s.headD 0).toNat < 128 := by
  match s, h with
  | [c], h => simp [letterB, isLet] at h; simp; omega

/-- what is known of the reader between two lines -/
structure RGood (st : RSt) : Prop where
  good : GoodAr st.ar
  inv : Inv st

theorem kind_of {L : Nat} (hL : L ≤ 65536) {st : RSt} {x : Ln} (h : LnOk L x) (hw : wrongE st x = 0) (n : Nd) (e1 : n.ws = x.ws) (e2 : n.text = x.text) (hu : wd x.ws 0 = wUse → ∃ d, n.use = some d) : Kind n := by
  have hs := h.small
  refine ⟨by rw [e1]; exact hs.1, fun t ht => ?_, fun q => ?_, fun q => ?_, fun q => hu (by rw [← e1]; exact q), fun q => ?_, ?_⟩
  · rw [e1] at ht; have := hs.2.1 t ht; omega
  · rw [e1] at q ⊢; exact wrongE_rep hw q
  · rw [e1] at q ⊢; exact (wrongE_four hw q).1
  · rw [e1, h.ws] at q
    have := words_head x.text
    rw [q] at this
    rw [e2]
    exact this
  · rw [e2]; have := h.len; omega
end Drl
