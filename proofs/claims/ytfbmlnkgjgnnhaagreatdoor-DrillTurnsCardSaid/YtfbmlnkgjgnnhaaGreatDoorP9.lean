import Derived.Test.YtfbmlnkgjgnnhaaGreatDoorP8
/-! what reading leaves knows its letters; no program in sight -/
namespace Drl

theorem nd_addTo_rest {ar : List Nd} {i k j : Nat} (h : j < ar.length) : (nd (addTo ar i k) j).ws = (nd ar j).ws ∧ (nd (addTo ar i k) j).letter = (nd ar j).letter ∧ (nd (addTo ar i k) j).use = (nd ar j).use := by
  rw [nd_addTo h]
  split <;> exact ⟨rfl, rfl, rfl⟩

def updS (S : Nat → List UInt8) (n : Nat) (X : List UInt8) : Nat → List UInt8 := fun i => if i = n then X else S i
theorem updS_old {S : Nat → List UInt8} {n i : Nat} (X : List UInt8) (h : i < n) : updS S n X i = S i := by unfold updS; rw [if_neg (by omega)]
theorem updS_new (S : Nat → List UInt8) (n : Nat) (X : List UInt8) : updS S n X n = X := by simp [updS]

theorem Scoped.push {ar : List Nd} {S : Nat → List UInt8} (G : GoodAr ar) (h : Scoped ar S) (x : Nd) (hb : x.body = []) (X : List UInt8) : Scoped (ar ++ [x]) (updS S ar.length X) := by
  have key : ∀ {i n}, i < (ar ++ [x]).length → n ∈ (nd (ar ++ [x]) i).body → i < ar.length ∧ n < ar.length ∧ n ∈ (nd ar i).body := by
    intro i n hi hn
    rcases snoc_lt hi with rfl | hi
    · rw [nd_last, hb] at hn; cases hn
    · rw [nd_append hi] at hn
      exact ⟨hi, (G.body i hi n hn).1, hn⟩
  refine ⟨?_, ?_, ?_, ?_⟩
  · intro i hi n hn q
    obtain ⟨h1, h2, h3⟩ := key hi hn
    rw [nd_append h2] at q ⊢
    rw [updS_old X h1]
    exact h.rep i h1 n h3 q
  · intro i hi n hn q
    obtain ⟨h1, h2, h3⟩ := key hi hn
    rw [nd_append h2] at q ⊢
    rw [updS_old X h1]
    exact h.for_ i h1 n h3 q
  · intro i hi n hn q
    obtain ⟨h1, h2, h3⟩ := key hi hn
    rw [nd_append h2] at q ⊢
    rw [updS_old X h1, updS_old X h2]
    exact h.blk i h1 n h3 q
  · intro i hi n hn q d hd
    obtain ⟨h1, h2, h3⟩ := key hi hn
    rw [nd_append h2] at q hd
    rw [updS_old X (G.uselt n h2 d hd)]
    exact h.use i h1 n h3 q d hd

theorem Scoped.join {ar : List Nd} {S : Nat → List UInt8} (G : GoodAr ar) (h : Scoped ar S) (x : Nd) (hb : x.body = []) (X : List UInt8) (i : Nat) (hi : i < ar.length)
    (h1 : wd x.ws 0 = wRepeat → WordOk (S i) (wd x.ws 1)) (h2 : wd x.ws 0 = wFor → WordOk (S i) (wd x.ws 2) ∧ WordOk (S i) (wd x.ws 3))
    (h3 : (wd x.ws 0 = wRepeat ∨ wd x.ws 0 = wFor) → ∀ c ∈ X, c ∈ S i ∨ c = x.letter) (h4 : wd x.ws 0 = wUse → ∀ d, x.use = some d → d < ar.length ∧ S d = []) : Scoped (addTo (ar ++ [x]) i ar.length) (updS S ar.length X) := by
  have g := h.push G x hb X
  have hL : ar.length < (ar ++ [x]).length := by simp
  obtain ⟨n1, n2, n3⟩ := nd_addTo_rest (i := i) (k := ar.length) hL
  rw [nd_last] at n1 n2 n3
  have key : ∀ {j n}, j < (addTo (ar ++ [x]) i ar.length).length → n ∈ (nd (addTo (ar ++ [x]) i ar.length) j).body → (j < (ar ++ [x]).length ∧ n < (ar ++ [x]).length ∧ n ∈ (nd (ar ++ [x]) j).body) ∨ (j = i ∧ n = ar.length) := by
    intro j n hj hn
    rw [addTo_len] at hj
    rw [nd_addTo hj] at hn
    have hold : n ∈ (nd (ar ++ [x]) j).body → n < (ar ++ [x]).length := by
      intro hn
      rcases snoc_lt hj with rfl | hj'
      · rw [nd_last, hb] at hn; cases hn
      · rw [nd_append hj'] at hn
        have := (G.body j hj' n hn).1
        simp; omega
    split at hn
    · next e =>
      simp only [List.mem_append, List.mem_singleton] at hn
      rcases hn with hn | rfl
      · exact .inl ⟨hj, hold hn, hn⟩
      · exact .inr ⟨e, rfl⟩
    · exact .inl ⟨hj, hold hn, hn⟩
  refine ⟨?_, ?_, ?_, ?_⟩
  · intro j hj n hn q
    rcases key hj hn with ⟨a, b, c⟩ | ⟨rfl, rfl⟩
    · rw [(nd_addTo_rest b).1] at q ⊢; exact g.rep j a n c q
    · rw [n1] at q ⊢; rw [updS_old X hi]; exact h1 q
  · intro j hj n hn q
    rcases key hj hn with ⟨a, b, c⟩ | ⟨rfl, rfl⟩
    · rw [(nd_addTo_rest b).1] at q ⊢; exact g.for_ j a n c q
    · rw [n1] at q ⊢; rw [updS_old X hi]; exact h2 q
  · intro j hj n hn q
    rcases key hj hn with ⟨a, b, c⟩ | ⟨rfl, rfl⟩
    · rw [(nd_addTo_rest b).1] at q; rw [(nd_addTo_rest b).2.1]; exact g.blk j a n c q
    · rw [n1] at q; rw [n2, updS_old X hi, updS_new]; exact h3 q
  · intro j hj n hn q d hd
    rcases key hj hn with ⟨a, b, c⟩ | ⟨rfl, rfl⟩
    · rw [(nd_addTo_rest b).1] at q; rw [(nd_addTo_rest b).2.2] at hd; exact g.use j a n c q d hd
    · rw [n1] at q; rw [n3] at hd
      obtain ⟨e1, e2⟩ := h4 q d hd
      rw [updS_old X e1]; exact e2

structure SInv (st : RSt) (S : Nat → List UInt8) : Prop where
  sc : Scoped st.ar S
  zero : S 0 = []
  z0 : (nd st.ar 0).letter = 0
  opened : ∀ k, k < st.opn.length → ∀ c, isLet c = true → around st.ar (st.opn.take (k + 1)) c = true → c ∈ S (st.opn.getD k 0)
  defs : ∀ i ∈ st.opn, wd (nd st.ar i).ws 0 = wDef → S i = []
  names : ∀ p ∈ st.names, S p.2 = []

theorem around_zero (ar : List Nd) (c : UInt8) (hc : isLet c = true) (h : (nd ar 0).letter = 0) : around ar [0] c = false := by
  have := isLet_ne hc
  simp only [around, List.any_cons, List.any_nil, Bool.or_false, h]
  rw [beq_eq_false_iff_ne]
  rintro rfl
  exact this rfl
theorem SInv.start : SInv st0 fun _ => [] := by
  have hz : ∀ {i}, i < st0.ar.length → (nd st0.ar i).body = [] := fun {i} h => by
    have : i = 0 := by simp [st0] at h; omega
    subst this; rfl
  refine ⟨⟨?_, ?_, ?_, ?_⟩, rfl, rfl, ?_, ?_, ?_⟩
  · intro i hi n hn; rw [hz hi] at hn; cases hn
  · intro i hi n hn; rw [hz hi] at hn; cases hn
  · intro i hi n hn; rw [hz hi] at hn; cases hn
  · intro i hi n hn; rw [hz hi] at hn; cases hn
  · intro k hk c hc h
    have : k = 0 := by simp [st0] at hk; omega
    subst this
    have e : st0.opn.take (0 + 1) = [0] := rfl
    rw [e, around_zero _ _ hc rfl] at h
    cases h
  · intro i _ _; rfl
  · intro p hp; cases hp

theorem top_getD {st : RSt} (h : st.opn ≠ []) : st.opn.getD (st.opn.length - 1) 0 = top st := by
  rw [List.getD_eq_getElem?_getD, top_at h]; rfl
theorem SInv.top_ {st : RSt} {S : Nat → List UInt8} (h : SInv st S) (hi : Inv st) {c : UInt8} (hc : isLet c = true) (ha : around st.ar st.opn c = true) : c ∈ S (top st) := by
  have hl : 0 < st.opn.length := List.length_pos_iff.2 hi.ne
  have := h.opened (st.opn.length - 1) (by omega) c hc (by rw [show st.opn.length - 1 + 1 = st.opn.length by omega, List.take_length]; exact ha)
  rwa [top_getD hi.ne] at this

theorem numB_ok' {s : Str} {m : Int} (h : numB s m = true) : numOk s = true := by
  simp only [numB, Bool.and_eq_true] at h; exact h.1
theorem countsB_word {st : RSt} {S : Nat → List UInt8} (h : SInv st S) (hi : Inv st) {s : Str} (hc : countsB st.ar st.opn s = true) : WordOk (S (top st)) s := by
  unfold countsB at hc
  split at hc
  · next d c =>
    split at hc
    · next e => exact .inr ⟨d, c, rfl, e.1, e.2, h.top_ hi e.2 hc⟩
    · exact .inl (numB_ok' hc)
  · exact .inl (numB_ok' hc)

/-- around, where the nodes that are open keep their letters -/
theorem around_same {ar ar' : List Nd} {l : List Nat} (c : UInt8) (h : ∀ i ∈ l, (nd ar' i).letter = (nd ar i).letter) : around ar' l c = around ar l c := by
  unfold around
  induction l with
  | nil => rfl
  | cons a l ih => simp only [List.any_cons]; rw [h a (by simp), ih (fun i hi => h i (by simp [hi]))]

/-- nothing is opened or closed -/
theorem SInv.stay {st : RSt} {S : Nat → List UInt8} (h : SInv st S) (hi : Inv st) (ar' : List Nd) (X : List UInt8) (hsc : Scoped ar' (updS S st.ar.length X))
    (hnd : ∀ i, i < st.ar.length → (nd ar' i).letter = (nd st.ar i).letter ∧ (nd ar' i).ws = (nd st.ar i).ws) : SInv { st with ar := ar' } (updS S st.ar.length X) := by
  refine ⟨hsc, by rw [updS_old X hi.pos]; exact h.zero, by rw [(hnd 0 hi.pos).1]; exact h.z0, ?_, ?_, ?_⟩
  · intro k hk c hc ha
    have hm : st.opn.getD k 0 ∈ st.opn := by
      rw [List.getD_eq_getElem?_getD, List.getElem?_eq_getElem hk]; exact List.getElem_mem hk
    dsimp only at ha ⊢
    rw [updS_old X (hi.opnlt _ hm)]
    refine h.opened k hk c hc ?_
    rw [← around_same c fun i hi' => (hnd i (hi.opnlt i (List.mem_of_mem_take hi'))).1]
    exact ha
  · intro i hi' hw
    dsimp only at hi' hw
    have := hi.opnlt i hi'
    rw [(hnd i this).2] at hw
    rw [updS_old X this]
    exact h.defs i hi' hw
  · intro p hp
    rw [updS_old X (hi.namelt p hp)]
    exact h.names p hp
/-- the newest is opened -/
theorem SInv.opening {st : RSt} {S : Nat → List UInt8} (h : SInv st S) (n : Nat) (hx : ∀ c, isLet c = true → (around st.ar st.opn c = true ∨ (nd st.ar n).letter = c) → c ∈ S n) (hd : wd (nd st.ar n).ws 0 = wDef → S n = []) : SInv { st with opn := st.opn ++ [n] } S := by
  refine ⟨h.sc, h.zero, h.z0, ?_, ?_, h.names⟩
  · intro k hk c hc ha
    dsimp only at hk ha ⊢
    by_cases e : k < st.opn.length
    · rw [List.take_append_of_le_length (by omega)] at ha
      have := h.opened k e c hc ha
      rw [List.getD_eq_getElem?_getD, List.getElem?_append_left e, ← List.getD_eq_getElem?_getD]
      exact this
    · have e2 : k = st.opn.length := by simp at hk; omega
      subst e2
      rw [List.take_of_length_le (by simp)] at ha
      rw [List.getD_eq_getElem?_getD]
      simp only [List.getElem?_concat_length, Option.getD_some]
      refine hx c hc ?_
      simp only [around, List.any_append, List.any_cons, List.any_nil, Bool.or_false, Bool.or_eq_true, beq_iff_eq] at ha ⊢
      exact ha
  · intro i hi hw
    simp only [List.mem_append, List.mem_singleton] at hi
    rcases hi with hi | rfl
    · exact h.defs i hi hw
    · exact hd hw
/-- the last that is open is closed -/
theorem SInv.closing {st : RSt} {S : Nat → List UInt8} (h : SInv st S) (hne : st.opn ≠ []) (names : List (Str × Nat))
    (hn : names = if wd (nd st.ar (top st)).ws 0 = wDef then st.names ++ [(wd (nd st.ar (top st)).ws 1, top st)] else st.names) : SInv { st with opn := st.opn.dropLast, names := names } S := by
  refine ⟨h.sc, h.zero, h.z0, ?_, fun i hi' hw => h.defs i (List.dropLast_subset _ hi') hw, ?_⟩
  · intro k hk c hc ha
    dsimp only at hk ha ⊢
    rw [List.length_dropLast] at hk
    have e1 : st.opn.dropLast.take (k + 1) = st.opn.take (k + 1) := by
      rw [List.dropLast_eq_take, List.take_take, Nat.min_eq_left (by omega)]
    have e2 : st.opn.dropLast.getD k 0 = st.opn.getD k 0 := by
      rw [List.getD_eq_getElem?_getD, List.getElem?_dropLast, if_pos (by omega), ← List.getD_eq_getElem?_getD]
    rw [e1] at ha
    rw [e2]
    exact h.opened k (by omega) c hc ha
  · intro p hp
    dsimp only at hp
    rw [hn] at hp
    split at hp
    · next e =>
      simp only [List.mem_append, List.mem_singleton] at hp
      rcases hp with hp | rfl
      · exact h.names p hp
      · exact h.defs _ (by rw [top_eq hne]; exact List.getLast_mem hne) e
    · exact h.names p hp

theorem wrongE_repc {st : RSt} {x : Ln} (h : wrongE st x = 0) (q : wd x.ws 0 = wRepeat) : countsB st.ar st.opn (wd x.ws 1) = true := by
  unfold wrongE at h
  rw [if_neg (by rw [q]; decide), if_pos q] at h
  split at h
  · cases h
  · next hn =>
    simp only [Bool.or_eq_true, not_or, Bool.not_eq_true', Bool.not_eq_false] at hn
    exact hn.2
theorem wrongE_forc {st : RSt} {x : Ln} (h : wrongE st x = 0) (q : wd x.ws 0 = wFor) : countsB st.ar st.opn (wd x.ws 2) = true ∧ countsB st.ar st.opn (wd x.ws 3) = true := by
  unfold wrongE at h
  rw [if_neg (by rw [q]; decide), if_neg (by rw [q]; decide), if_pos q] at h
  split at h
  · cases h
  · split at h
    · cases h
    · next hn =>
      simp only [Bool.or_eq_true, not_or, Bool.not_eq_true', Bool.not_eq_false] at hn
      exact hn
theorem look_in {names : List (Str × Nat)} {s : Str} {d : Nat} (h : look names s = some d) : ∃ p ∈ names, p.2 = d := by
  unfold look at h
  obtain ⟨p, hp, rfl⟩ := Option.map_eq_some_iff.1 h
  exact ⟨p, List.mem_of_find?_eq_some hp, rfl⟩

theorem SInv.step {st st' : RSt} {S : Nat → List UInt8} {x : Ln} (g : RGood st) (h : SInv st S) (hs : readStep st x = .ok st') : ∃ S', SInv st' S' := by
  have htop := g.inv.top_lt
  have hpos := g.inv.pos
  have hpush : ∀ (n : Nd), ∀ i, i < st.ar.length → (nd (st.ar ++ [n]) i).letter = (nd st.ar i).letter ∧ (nd (st.ar ++ [n]) i).ws = (nd st.ar i).ws := fun n i hi => by rw [nd_append hi]; exact ⟨rfl, rfl⟩
  have hjoin : ∀ (n : Nd), ∀ i, i < st.ar.length → (nd (addTo (st.ar ++ [n]) (top st) st.ar.length) i).letter = (nd st.ar i).letter ∧ (nd (addTo (st.ar ++ [n]) (top st) st.ar.length) i).ws = (nd st.ar i).ws := fun n i hi => by
    obtain ⟨a, b, _⟩ := nd_addTo_rest (ar := st.ar ++ [n]) (i := top st) (k := st.ar.length) (j := i) (by simp; omega)
    rw [a, b]; exact hpush n i hi
  have hjl : ∀ (n : Nd), (nd (addTo (st.ar ++ [n]) (top st) st.ar.length) st.ar.length).letter = n.letter ∧ (nd (addTo (st.ar ++ [n]) (top st) st.ar.length) st.ar.length).ws = n.ws := fun n => by
    obtain ⟨a, b, _⟩ := nd_addTo_rest (ar := st.ar ++ [n]) (i := top st) (k := st.ar.length) (j := st.ar.length) (by simp)
    rw [a, b, nd_last]; exact ⟨rfl, rfl⟩
  unfold readStep at hs
  dsimp only at hs
  by_cases he : x.text = wEnd
  · rw [if_pos he] at hs
    by_cases ht : top st = 0
    · rw [if_pos ht] at hs; cases hs
    · rw [if_neg ht] at hs
      obtain rfl := Except.ok.inj hs
      have h1 := h.stay g.inv _ [] (h.sc.push g.good { at_ := x.at_, text := x.text, ws := x.ws } rfl []) (hpush _)
      exact ⟨_, h1.closing g.inv.ne _ (by
        have e1 : top { ar := st.ar ++ [{ at_ := x.at_, text := x.text, ws := x.ws }], opn := st.opn, names := st.names } = top st := rfl
        rw [e1, nd_append htop])⟩
  rw [if_neg he] at hs
  by_cases hw0 : wrongE st x ≠ 0
  · rw [if_pos hw0] at hs; cases hs
  rw [if_neg hw0] at hs
  have hw : wrongE st x = 0 := by omega
  by_cases q1 : wd x.ws 0 = wDef
  · rw [if_pos q1] at hs
    obtain rfl := Except.ok.inj hs
    obtain ⟨d1, d2, d3⟩ := wrongE_def hw q1
    have h1 := h.stay g.inv _ [] (h.sc.push g.good { at_ := x.at_, text := x.text, ws := x.ws } rfl []) (hpush _)
    refine ⟨_, h1.opening st.ar.length (fun c hc ha => ?_) (fun _ => updS_new _ _ _)⟩
    exfalso
    have ho : st.opn = [0] := by
      obtain ⟨t, ht, _⟩ := g.inv.opn0
      rw [ht] at d2 ⊢
      have : t = [] := List.eq_nil_of_length_eq_zero (by rw [List.length_cons] at d2; omega)
      rw [this]
    have hz := isLet_ne hc
    rcases ha with ha | ha
    · dsimp only at ha
      rw [ho, around_zero _ _ hc (by rw [nd_append hpos]; exact h.z0)] at ha; cases ha
    · dsimp only at ha
      rw [nd_last] at ha
      subst ha
      exact hz rfl
  rw [if_neg q1] at hs
  by_cases q2 : wd x.ws 0 = wFor
  · rw [if_pos q2] at hs
    obtain rfl := Except.ok.inj hs
    obtain ⟨c2, c3⟩ := wrongE_forc hw q2
    have hsc := h.sc.join g.good { at_ := x.at_, text := x.text, ws := x.ws, letter := (wd x.ws 1).headD 0 } rfl (S (top st) ++ [(wd x.ws 1).headD 0]) (top st) htop
      (fun q => by dsimp only at q; rw [q2] at q; exact absurd q (by decide)) (fun _ => ⟨countsB_word h g.inv c2, countsB_word h g.inv c3⟩)
      (fun _ c hc => by simp only [List.mem_append, List.mem_singleton] at hc; exact hc) (fun q => by dsimp only at q; rw [q2] at q; exact absurd q (by decide))
    have h1 := h.stay g.inv _ _ hsc (hjoin _)
    refine ⟨_, h1.opening st.ar.length (fun c hc ha => ?_) (fun q => ?_)⟩
    · rw [updS_new]
      rcases ha with ha | ha
      · dsimp only at ha
        rw [around_same c fun i hi => (hjoin _ i (g.inv.opnlt i hi)).1] at ha
        exact List.mem_append_left _ (h.top_ g.inv hc ha)
      · dsimp only at ha
        rw [(hjl _).1] at ha
        rw [← ha]; simp
    · dsimp only at q
      rw [(hjl _).2] at q
      dsimp only at q
      rw [q2] at q; exact absurd q (by decide)
  rw [if_neg q2] at hs
  by_cases q3 : wd x.ws 0 = wRepeat
  · rw [if_pos q3] at hs
    obtain rfl := Except.ok.inj hs
    have c1 := wrongE_repc hw q3
    have hsc := h.sc.join g.good { at_ := x.at_, text := x.text, ws := x.ws } rfl (S (top st)) (top st) htop
      (fun _ => countsB_word h g.inv c1) (fun q => by dsimp only at q; rw [q3] at q; exact absurd q (by decide))
      (fun _ c hc => .inl hc) (fun q => by dsimp only at q; rw [q3] at q; exact absurd q (by decide))
    have h1 := h.stay g.inv _ _ hsc (hjoin _)
    refine ⟨_, h1.opening st.ar.length (fun c hc ha => ?_) (fun q => ?_)⟩
    · rw [updS_new]
      rcases ha with ha | ha
      · dsimp only at ha
        rw [around_same c fun i hi => (hjoin _ i (g.inv.opnlt i hi)).1] at ha
        exact h.top_ g.inv hc ha
      · dsimp only at ha
        rw [(hjl _).1] at ha
        have := isLet_ne hc
        subst ha
        exact absurd rfl this
    · dsimp only at q
      rw [(hjl _).2] at q
      dsimp only at q
      rw [q3] at q; exact absurd q (by decide)
  rw [if_neg q3] at hs
  by_cases q4 : wd x.ws 0 = wUse
  · rw [if_pos q4] at hs
    obtain rfl := Except.ok.inj hs
    have hsc := h.sc.join g.good { at_ := x.at_, text := x.text, ws := x.ws, use := look st.names (wd x.ws 1) } rfl [] (top st) htop
      (fun q => absurd q q3) (fun q => absurd q q2) (fun q => by rcases q with q | q; (· exact absurd q q3); (· exact absurd q q2))
      (fun _ d hd => by
        obtain ⟨p, hp, rfl⟩ := look_in hd
        exact ⟨g.inv.namelt p hp, h.names p hp⟩)
    exact ⟨_, h.stay g.inv _ _ hsc (hjoin _)⟩
  rw [if_neg q4] at hs
  obtain rfl := Except.ok.inj hs
  have hsc := h.sc.join g.good { at_ := x.at_, text := x.text, ws := x.ws } rfl [] (top st) htop
    (fun q => absurd q q3) (fun q => absurd q q2) (fun q => by rcases q with q | q; (· exact absurd q q3); (· exact absurd q q2)) (fun q => absurd q q4)
  exact ⟨_, h.stay g.inv _ _ hsc (hjoin _)⟩

theorem readFrom_all {L : Nat} (hL : L ≤ 65536) : ∀ (l : List Ln) (st st' : RSt) (S : Nat → List UInt8), RGood st → SInv st S → (∀ x ∈ l, LnOk L x) → readFrom st l = .ok st' → RGood st' ∧ (∃ S', SInv st' S') ∧ st'.ar.length = st.ar.length + l.length
  | [], st, st', S, h, hS, _, hr => by
    simp only [readFrom] at hr
    split at hr
    · obtain rfl := Except.ok.inj hr; exact ⟨h, ⟨S, hS⟩, rfl⟩
    · cases hr
  | x :: r, st, st', S, h, hS, hx, hr => by
    simp only [readFrom] at hr
    cases e : readStep st x with
    | error e' => rw [e] at hr; cases hr
    | ok st1 =>
      rw [e] at hr
      obtain ⟨S1, hS1⟩ := hS.step h e
      obtain ⟨h1, h2, h3⟩ := readFrom_all hL r st1 st' S1 (h.step hL (hx x (by simp)) e) hS1 (fun y hy => hx y (by simp [hy])) hr
      exact ⟨h1, h2, by rw [h3, step_len e]; simp; omega⟩

/-- a text that is not too long is read and gone through -/
theorem read_ends {l : List Ln} {L : Nat} (hL : L ≤ 65536) (hx : ∀ x ∈ l, LnOk L x) {st : RSt} (hr : readFrom st0 l = .ok st) : RGood st ∧ st.ar.length = 1 + l.length ∧ ∃ k r, run st.ar k (.seq (nd st.ar 0).body noNums) {} = some r := by
  obtain ⟨h1, ⟨S, hS⟩, h3⟩ := readFrom_all hL l st0 st _ RGood.start SInv.start hx hr
  exact ⟨h1, by rw [h3]; rfl, ends h1.good hS.sc hS.zero⟩

/-- the whole, with fuel enough: the answer -/
theorem unroll_some (text : Str) : ∃ k r, unroll k text = some r := by
  unfold unroll
  by_cases h0 : 65536 < text.length
  · exact ⟨0, _, by rw [if_pos h0]⟩
  by_cases h1 : headB (lines text) = false
  · exact ⟨0, _, by rw [if_neg h0, if_pos h1]⟩
  cases hr : readFrom st0 (lines text).tail with
  | error e => exact ⟨0, .error e, by rw [if_neg h0, if_neg h1]⟩
  | ok st =>
    obtain ⟨_, _, k, r, hk⟩ := read_ends (L := text.length) (by omega) (fun x hx => (lines_ok text).2 x (List.mem_of_mem_tail hx)) hr
    cases r with
    | error e => exact ⟨k, .error e, by simp only [if_neg h0, if_neg h1, hk]⟩
    | ok st' => exact ⟨k, .ok (st'.steps, (headN (lines text)).toNat), by simp only [if_neg h0, if_neg h1, hk]⟩
end Drl
