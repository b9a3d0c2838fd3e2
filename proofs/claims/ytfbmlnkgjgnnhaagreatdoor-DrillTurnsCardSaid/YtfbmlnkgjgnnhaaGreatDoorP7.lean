import Derived.Test.YtfbmlnkgjgnnhaaGreatDoorP6
namespace Drl

theorem wrongE_def {st : RSt} {x : Ln} (h : wrongE st x = 0) (q : wd x.ws 0 = wDef) : x.ws.length = 2 ∧ st.opn.length ≤ 1 ∧ look st.names (wd x.ws 1) = none := by
  simp only [wrongE, q, if_true] at h
  have d1 : x.ws.length = 2 := by
    by_cases e : x.ws.length = 2
    · exact e
    · rw [if_pos e] at h; cases h
  rw [if_neg (by omega)] at h
  have d2 : ¬ 1 < st.opn.length := fun e => by rw [if_pos e] at h; cases h
  rw [if_neg d2] at h
  refine ⟨d1, Nat.not_lt.1 d2, ?_⟩
  cases e : look st.names (wd x.ws 1) with
  | none => rfl
  | some _ => rw [e] at h; simp at h

theorem nd_addTo_last {ar : List Nd} {x : Nd} {i : Nat} : (nd (addTo (ar ++ [x]) i ar.length) ar.length).ws = x.ws := by
  rw [nd_addTo_ws (by simp), nd_last]

theorem RGood.step {st st' : RSt} {x : Ln} {L : Nat} (hL : L ≤ 65536) (h : RGood st) (hx : LnOk L x) (hs : readStep st x = .ok st') : RGood st' := by
  have hsm := hx.small
  have hws : 1 ≤ x.ws.length := hsm.1
  have hwl : ∀ t ∈ x.ws, t.length ≤ 65536 := fun t ht => by have := hsm.2.1 t ht; omega
  have htop := h.inv.top_lt
  have hpos := h.inv.pos
  unfold readStep at hs
  dsimp only at hs
  by_cases he : x.text = wEnd
  · rw [if_pos he] at hs
    by_cases ht : top st = 0
    · rw [if_pos ht] at hs; cases hs
    · rw [if_neg ht] at hs
      obtain rfl := Except.ok.inj hs
      refine ⟨h.good.push _ rfl (by show (0 : UInt8).toNat < 128; decide) (fun d hd => by cases hd), ?_⟩
      have hp := h.inv.push { at_ := x.at_, text := x.text, ws := x.ws } hws hwl rfl (fun d hd => by cases hd)
      refine hp.close (by exact ht) _ ?_
      have e1 : top { ar := st.ar ++ [{ at_ := x.at_, text := x.text, ws := x.ws }], opn := st.opn, names := st.names } = top st := rfl
      rw [e1, nd_append htop]
  rw [if_neg he] at hs
  by_cases hw0 : wrongE st x ≠ 0
  · rw [if_pos hw0] at hs; cases hs
  rw [if_neg hw0] at hs
  have hw : wrongE st x = 0 := by omega
  by_cases q1 : wd x.ws 0 = wDef
  · rw [if_pos q1] at hs
    obtain rfl := Except.ok.inj hs
    obtain ⟨d1, d2, d3⟩ := wrongE_def hw q1
    refine ⟨h.good.push _ rfl (by show (0 : UInt8).toNat < 128; decide) (fun d hd => by cases hd), ?_⟩
    have hp := h.inv.push { at_ := x.at_, text := x.text, ws := x.ws } hws hwl rfl (fun d hd => by cases hd)
    exact hp.open_ st.ar.length (by simp) (by omega) (fun _ => ⟨d2, by rw [nd_last]; exact d1, by rw [nd_last]; exact d3⟩)
  rw [if_neg q1] at hs
  by_cases q2 : wd x.ws 0 = wFor
  · rw [if_pos q2] at hs
    obtain rfl := Except.ok.inj hs
    have hk := kind_of hL hx hw { at_ := x.at_, text := x.text, ws := x.ws, letter := (wd x.ws 1).headD 0 } rfl rfl (fun q => by rw [q2] at q; exact absurd q (by decide))
    have hl := letterB_lt (wrongE_four hw q2).2
    refine ⟨h.good.join _ hk rfl hl (fun d hd => by cases hd) _ htop, ?_⟩
    have hp := h.inv.push { at_ := x.at_, text := x.text, ws := x.ws, letter := (wd x.ws 1).headD 0 } hws hwl rfl (fun d hd => by cases hd)
    have ha := hp.add (top st) st.ar.length (by simp)
    exact ha.open_ st.ar.length (by rw [addTo_len]; simp) (by omega) (fun q => by rw [nd_addTo_last] at q; rw [q2] at q; exact absurd q (by decide))
  rw [if_neg q2] at hs
  by_cases q3 : wd x.ws 0 = wRepeat
  · rw [if_pos q3] at hs
    obtain rfl := Except.ok.inj hs
    have hk := kind_of hL hx hw { at_ := x.at_, text := x.text, ws := x.ws } rfl rfl (fun q => by rw [q3] at q; exact absurd q (by decide))
    refine ⟨h.good.join _ hk rfl (by show (0 : UInt8).toNat < 128; decide) (fun d hd => by cases hd) _ htop, ?_⟩
    have hp := h.inv.push { at_ := x.at_, text := x.text, ws := x.ws } hws hwl rfl (fun d hd => by cases hd)
    have ha := hp.add (top st) st.ar.length (by simp)
    exact ha.open_ st.ar.length (by rw [addTo_len]; simp) (by omega) (fun q => by rw [nd_addTo_last] at q; rw [q3] at q; exact absurd q (by decide))
  rw [if_neg q3] at hs
  by_cases q4 : wd x.ws 0 = wUse
  · rw [if_pos q4] at hs
    obtain rfl := Except.ok.inj hs
    obtain ⟨i, hi⟩ := wrongE_known hw q4
    have hil := look_mem h.inv.namelt hi
    have hk := kind_of hL hx hw { at_ := x.at_, text := x.text, ws := x.ws, use := look st.names (wd x.ws 1) } rfl rfl (fun _ => ⟨i, hi⟩)
    have hu : ∀ d, look st.names (wd x.ws 1) = some d → d < st.ar.length := fun d hd => by rw [hi] at hd; obtain rfl := Option.some.inj hd; exact hil
    refine ⟨h.good.join _ hk rfl (by show (0 : UInt8).toNat < 128; decide) hu _ htop, ?_⟩
    exact (h.inv.push { at_ := x.at_, text := x.text, ws := x.ws, use := look st.names (wd x.ws 1) } hws hwl rfl hu).add (top st) st.ar.length (by simp)
  rw [if_neg q4] at hs
  obtain rfl := Except.ok.inj hs
  have hk := kind_of hL hx hw { at_ := x.at_, text := x.text, ws := x.ws } rfl rfl (fun q => absurd q q4)
  refine ⟨h.good.join _ hk rfl (by show (0 : UInt8).toNat < 128; decide) (fun d hd => by cases hd) _ htop, ?_⟩
  exact (h.inv.push { at_ := x.at_, text := x.text, ws := x.ws } hws hwl rfl (fun d hd => by cases hd)).add (top st) st.ar.length (by simp)

theorem step_len {st st' : RSt} {x : Ln} (hs : readStep st x = .ok st') : st'.ar.length = st.ar.length + 1 := by
  unfold readStep at hs
  dsimp only at hs
  repeat' split at hs
  all_goals first
    | (cases hs; done)
    | (obtain rfl := Except.ok.inj hs; simp [addTo_len])

theorem readFrom_good {L : Nat} (hL : L ≤ 65536) : ∀ (l : List Ln) (st st' : RSt), RGood st → (∀ x ∈ l, LnOk L x) → readFrom st l = .ok st' → RGood st' ∧ st'.ar.length = st.ar.length + l.length
  | [], st, st', h, _, hr => by
    simp only [readFrom] at hr
    split at hr
    · obtain rfl := Except.ok.inj hr; exact ⟨h, rfl⟩
    · cases hr
  | x :: r, st, st', h, hx, hr => by
    simp only [readFrom] at hr
    cases e : readStep st x with
    | error e' => rw [e] at hr; cases hr
    | ok st1 =>
      rw [e] at hr
      obtain ⟨h1, h2⟩ := readFrom_good hL r st1 st' (h.step hL (hx x (by simp)) e) (fun y hy => hx y (by simp [hy])) hr
      exact ⟨h1, by rw [h2, step_len e]; simp; omega⟩
theorem RGood.start : RGood st0 := ⟨GoodAr.start, Inv.start⟩
end Drl
