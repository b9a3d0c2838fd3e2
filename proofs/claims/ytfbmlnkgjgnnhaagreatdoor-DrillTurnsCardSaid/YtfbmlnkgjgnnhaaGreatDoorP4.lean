/- What holds of the blocks while a drill is read. -/
import Derived.Test.YtfbmlnkgjgnnhaaGreatDoorP3
namespace Drl

theorem addTo_get (ar : List Nd) (i k j : Nat) : (addTo ar i k)[j]? = (ar[j]?).map fun n => if j = i then { n with body := n.body ++ [k] } else n := by
  unfold addTo
  rw [List.getElem?_modify]
  cases h : ar[j]? with
  | none => rfl
  | some n =>
    by_cases e : i = j
    · subst e; simp
    · simp [e, Ne.symm e]
theorem addTo_len (ar : List Nd) (i k : Nat) : (addTo ar i k).length = ar.length := by simp [addTo]
theorem nd_get {ar : List Nd} {i : Nat} {n : Nd} (h : ar[i]? = some n) : nd ar i = n := by simp [nd, List.getD_eq_getElem?_getD, h]
theorem get_nd {ar : List Nd} {i : Nat} (h : i < ar.length) : ar[i]? = some (nd ar i) := by simp [nd, List.getD_eq_getElem?_getD, List.getElem?_eq_getElem h]
theorem nd_append {ar : List Nd} {x : Nd} {i : Nat} (h : i < ar.length) : nd (ar ++ [x]) i = nd ar i := by simp [nd, List.getD_eq_getElem?_getD, List.getElem?_append_left h]
theorem nd_last (ar : List Nd) (x : Nd) : nd (ar ++ [x]) ar.length = x := by simp [nd, List.getD_eq_getElem?_getD]
theorem nd_addTo {ar : List Nd} {i k j : Nat} (h : j < ar.length) : nd (addTo ar i k) j = if j = i then { nd ar j with body := (nd ar j).body ++ [k] } else nd ar j := by
  rw [nd_get (n := if j = i then { nd ar j with body := (nd ar j).body ++ [k] } else nd ar j)]
  rw [addTo_get, get_nd h]; rfl
theorem nd_addTo_ws {ar : List Nd} {i k j : Nat} (h : j < ar.length) : (nd (addTo ar i k) j).ws = (nd ar j).ws := by
  rw [nd_addTo h]; split <;> rfl

/-- what holds while a drill is read -/
structure Inv (st : RSt) : Prop where
  opn0 : ∃ t, st.opn = 0 :: t ∧ 0 ∉ t
  opnlt : ∀ i ∈ st.opn, i < st.ar.length
  ws : ∀ i, 0 < i → i < st.ar.length → 1 ≤ (nd st.ar i).ws.length ∧ ∀ t ∈ (nd st.ar i).ws, t.length ≤ 65536
  bodylt : ∀ i, i < st.ar.length → ∀ k ∈ (nd st.ar i).body, k < st.ar.length
  uselt : ∀ i, i < st.ar.length → ∀ d, (nd st.ar i).use = some d → d < st.ar.length
  namelt : ∀ p ∈ st.names, p.2 < st.ar.length
  defs : ∀ i ∈ st.opn, i ≠ 0 → wd (nd st.ar i).ws 0 = wDef → (nd st.ar i).ws.length = 2 ∧ look st.names (wd (nd st.ar i).ws 1) = none
  defpos : ∀ k, 2 ≤ k → ∀ i, st.opn[k]? = some i → wd (nd st.ar i).ws 0 ≠ wDef

theorem Inv.pos {st : RSt} (h : Inv st) : 0 < st.ar.length := by
  obtain ⟨t, ht, _⟩ := h.opn0
  exact h.opnlt 0 (by rw [ht]; simp)
theorem Inv.ne {st : RSt} (h : Inv st) : st.opn ≠ [] := by
  obtain ⟨t, ht, _⟩ := h.opn0
  rw [ht]; simp
theorem top_eq {st : RSt} (h : st.opn ≠ []) : top st = st.opn.getLast h := by
  simp [top, List.getLastD_eq_getLast?, List.getLast?_eq_some_getLast h]
theorem top_at {st : RSt} (h : st.opn ≠ []) : st.opn[st.opn.length - 1]? = some (top st) := by
  rw [top_eq h, List.getLast_eq_getElem]
  exact List.getElem?_eq_getElem _
theorem Inv.top_mem {st : RSt} (h : Inv st) : top st ∈ st.opn := by
  rw [top_eq h.ne]
  exact List.getLast_mem h.ne
theorem Inv.top_lt {st : RSt} (h : Inv st) : top st < st.ar.length := h.opnlt _ h.top_mem
theorem Inv.start : Inv st0 := by
  refine ⟨⟨[], rfl, by simp⟩, ?_, ?_, ?_, ?_, ?_, ?_, ?_⟩
  · intro i hi; simp [st0] at hi ⊢; omega
  · intro i h1 h2; simp [st0] at h2; omega
  · intro i hi k hk
    have : i = 0 := by simp [st0] at hi; omega
    subst this
    simp [st0, nd] at hk
  · intro i hi d hd
    have : i = 0 := by simp [st0] at hi; omega
    subst this
    simp [st0, nd] at hd
  · intro p hp; simp [st0] at hp
  · intro i hi h0; simp [st0] at hi; exact absurd hi h0
  · intro k hk i hi
    have : st0.opn[k]? = none := List.getElem?_eq_none (by simp [st0]; omega)
    rw [this] at hi; cases hi

/-- a new node, in no list yet -/
theorem Inv.push {st : RSt} (h : Inv st) (x : Nd) (h1 : 1 ≤ x.ws.length) (h2 : ∀ t ∈ x.ws, t.length ≤ 65536) (hb : x.body = []) (hu : ∀ d, x.use = some d → d < st.ar.length) : Inv { st with ar := st.ar ++ [x] } := by
  have hlt : ∀ {i}, i < (st.ar ++ [x]).length → i = st.ar.length ∨ i < st.ar.length := fun hi => by simp at hi; omega
  refine ⟨h.opn0, fun i hi => by have := h.opnlt i hi; simp; omega, ?_, ?_, ?_, fun p hp => by have := h.namelt p hp; simp; omega, ?_, ?_⟩
  · intro i h0 hi
    rcases hlt hi with rfl | hi
    · rw [nd_last]; exact ⟨h1, h2⟩
    · rw [nd_append hi]; exact h.ws i h0 hi
  · intro i hi k hk
    rcases hlt hi with rfl | hi
    · rw [nd_last, hb] at hk; cases hk
    · rw [nd_append hi] at hk; have := h.bodylt i hi k hk; simp; omega
  · intro i hi d hd
    rcases hlt hi with rfl | hi
    · rw [nd_last] at hd; have := hu d hd; simp; omega
    · rw [nd_append hi] at hd; have := h.uselt i hi d hd; simp; omega
  · intro i hi h0 hw
    have := h.opnlt i hi
    rw [nd_append this] at hw ⊢
    exact h.defs i hi h0 hw
  · intro k hk i hi
    have := h.opnlt i (List.mem_of_getElem? hi)
    simp only [nd_append this]
    exact h.defpos k hk i hi
theorem Inv.add {st : RSt} (h : Inv st) (i k : Nat) (hk : k < st.ar.length) : Inv { st with ar := addTo st.ar i k } := by
  refine ⟨h.opn0, fun j hj => by rw [addTo_len]; exact h.opnlt j hj, ?_, ?_, ?_, fun p hp => by rw [addTo_len]; exact h.namelt p hp, ?_, ?_⟩
  · intro j h0 hj
    rw [addTo_len] at hj
    rw [nd_addTo_ws hj]; exact h.ws j h0 hj
  · intro j hj m hm
    rw [addTo_len] at hj ⊢
    rw [nd_addTo hj] at hm
    split at hm
    · simp only [List.mem_append, List.mem_singleton] at hm
      rcases hm with hm | rfl
      · exact h.bodylt j hj m hm
      · exact hk
    · exact h.bodylt j hj m hm
  · intro j hj d hd
    rw [addTo_len] at hj ⊢
    rw [nd_addTo hj] at hd
    split at hd <;> exact h.uselt j hj d hd
  · intro j hj h0 hw
    have := h.opnlt j hj
    rw [nd_addTo_ws this] at hw ⊢
    exact h.defs j hj h0 hw
  · intro m hm j hj
    have := h.opnlt j (List.mem_of_getElem? hj)
    simp only [nd_addTo_ws this]
    exact h.defpos m hm j hj
/-- a node is opened -/
theorem Inv.open_ {st : RSt} (h : Inv st) (n : Nat) (hn : n < st.ar.length) (h0 : n ≠ 0)
    (hd : wd (nd st.ar n).ws 0 = wDef → st.opn.length ≤ 1 ∧ (nd st.ar n).ws.length = 2 ∧ look st.names (wd (nd st.ar n).ws 1) = none) : Inv { st with opn := st.opn ++ [n] } := by
  obtain ⟨t, ht, h0t⟩ := h.opn0
  refine ⟨⟨t ++ [n], by simp [ht], by simp [h0t, Ne.symm h0]⟩, ?_, h.ws, h.bodylt, h.uselt, h.namelt, ?_, ?_⟩
  · intro i hi
    simp only [List.mem_append, List.mem_singleton] at hi
    rcases hi with hi | rfl
    · exact h.opnlt i hi
    · exact hn
  · intro i hi h1 hw
    simp only [List.mem_append, List.mem_singleton] at hi
    rcases hi with hi | rfl
    · exact h.defs i hi h1 hw
    · exact (hd hw).2
  · intro k hk i hi
    by_cases e : k < st.opn.length
    · exact h.defpos k hk i (by simpa [List.getElem?_append_left e] using hi)
    · have e2 : k = st.opn.length := by
        have := (List.getElem?_eq_some_iff.1 hi).1
        simp at this; omega
      subst e2
      simp at hi
      subst hi
      intro hw
      have := (hd hw).1
      omega
/-- the last that is open is closed -/
theorem Inv.close {st : RSt} (h : Inv st) (ht0 : top st ≠ 0) (names : List (Str × Nat))
    (hn : names = if wd (nd st.ar (top st)).ws 0 = wDef then st.names ++ [(wd (nd st.ar (top st)).ws 1, top st)] else st.names) :
    Inv { st with opn := st.opn.dropLast, names := names } := by
  obtain ⟨t, ht, h0t⟩ := h.opn0
  have htne : t ≠ [] := by
    rintro rfl
    exact ht0 (by simp [top, ht])
  have hsub : ∀ i ∈ st.opn.dropLast, i ∈ st.opn := fun i hi => List.dropLast_subset _ hi
  refine ⟨⟨t.dropLast, ?_, fun hh => h0t (List.dropLast_subset _ hh)⟩, fun i hi => h.opnlt i (hsub i hi), h.ws, h.bodylt, h.uselt, ?_, ?_, ?_⟩
  · simp only [ht]; rw [List.dropLast_cons_of_ne_nil htne]
  · intro p hp
    rw [hn] at hp
    split at hp
    · simp only [List.mem_append, List.mem_singleton] at hp
      rcases hp with hp | rfl
      · exact h.namelt p hp
      · exact h.top_lt
    · exact h.namelt p hp
  · intro i hi h1 hw
    obtain ⟨h2, h3⟩ := h.defs i (hsub i hi) h1 hw
    refine ⟨h2, ?_⟩
    rw [hn]
    split
    · rename_i htd
      -- the last is a def: it stands behind the whole alone
      exfalso
      have hlen : st.opn.length ≤ 2 := by
        rcases Nat.lt_or_ge 2 st.opn.length with h' | h'
        · exact absurd htd (h.defpos _ (by omega) _ (top_at h.ne))
        · exact h'
      rw [ht] at hi hlen
      match t, htne, hlen with
      | [a], _, _ => simp at hi; exact h1 hi
      | _ :: _ :: _, _, hlen => simp at hlen
    · exact h3
  · intro k hk i hi
    refine h.defpos k hk i ?_
    have hlt := (List.getElem?_eq_some_iff.1 hi).1
    rw [List.length_dropLast] at hlt
    rw [List.getElem?_dropLast] at hi
    simpa [hlt] using hi
end Drl
