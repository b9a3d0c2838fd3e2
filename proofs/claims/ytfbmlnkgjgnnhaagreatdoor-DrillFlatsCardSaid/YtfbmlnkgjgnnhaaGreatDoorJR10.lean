import Derived.Test.YtfbmlnkgjgnnhaaGreatDoorJR9
set_option linter.unusedSimpArgs false
set_option linter.unusedVariables false
namespace Go.Proofs.YtfbmlnkgjgnnhaaGreatDoor
open Go.RowKit

theorem wd_len' {ws : List Drl.Str} {n : Nat} (h : ∀ t ∈ ws, t.length ≤ n) (i : Nat) : (Drl.wd ws i).length ≤ n := by
  unfold Drl.wd
  rw [List.getD_eq_getElem?_getD]
  by_cases hi : i < ws.length
  · rw [List.getElem?_eq_getElem hi]; exact h _ (List.getElem_mem hi)
  · rw [List.getElem?_eq_none (by omega)]; simp
theorem words_size (t : Drl.Str) (i : Nat) : (Drl.wd (Drl.words t) i).length ≤ t.length := wd_len' (Drl.cutAt_mem 32 t) i

/-- is there such a name? as the call tells -/
def ThereB (L : List Drl.Str) (K : List Nat) (E : List Int) (s : Drl.Str) (i : Nat) (b : Bool) : Prop := ∀ r, Drl.ThereIs L K E s i r → (0 ≤ r ↔ b = true)

set_option maxRecDepth 100000 in
set_option maxHeartbeats 8000000 in
theorem rcheck_any (w : World) (R : Nat) (lv kv ev ov : Value) (L : List Drl.Str) (K : List Nat) (E : List Int) (opn : List Nat) (h : Sh w R lv kv ev L K E) (ho : OpnAt w ov opn) (hS : Side L K E opn) (i : Nat) (hi : i < L.length) (hiK : i < K.length) (th : Bool)
    (hth : 2 ≤ (Drl.words L[i]).length → ThereB L K E (Drl.wd (Drl.words L[i]) 1) i th) :
    Calls Tryz.prog 45 #[.pointer (some ⟨R, 0, none⟩), .int .i64 i, ov] w fun e w' => e = .returned (.int .i64 (Drl.rchk L K opn L[i] K[i] th : Nat)) ∧ Below w.heap.size w w' := by
  have hlK := h.lenK
  have hlE := h.lenE
  have HSH := Lib.hid h
  obtain ⟨lb, lc, kb, kc, eb, ec, rfl, rfl, rfl, hlb, hkb, heb⟩ := h.rows
  have c0 := h.c0
  have c1 := h.c1
  have HS := Lib.hid hS
  have HO := Lib.hid ho
  have HTH := Lib.hid hth
  obtain ⟨oao, ocap, rfl, _⟩ := ho
  rw [List.length_map] at HO ⊢
  have d3 := hlb i hi
  have d4 := hkb i hiK
  obtain ⟨sl, hsl⟩ := exists_str L[i]
  rw [strV_eq hsl] at d3
  have hszl : sl.size ≤ 65536 := by
    have := hS.hL L[i] (List.getElem_mem hi)
    rw [← size_len, hsl]; exact this
  have hol := hS.hol
  have hn := hS.hn
  have hil : (i : Int) < (L.length : Int) := by omega
  have HSL := Lib.hid hsl
  have HWS := Lib.hid (fun j => words_size L[i] j)
  have HLI := Lib.hid (hS.hL L[i] (List.getElem_mem hi))
  clear h hlb hkb heb hS hth hsl
  generalize hKi : K[i] = ki at *
  generalize hLi : L[i] = t at *
  have HR := Lib.hid (show Drl.rchk L K opn t ki th = _ from rfl)
  go_enter Tryz.func45, Tryz.ntmps45
  go_wp2_with fail
  refine (rwords_any sl w (by omega)).mono ?_
  rintro e w1 ⟨g, cap, rfl, hW, hb⟩
  rw [HSL.out] at hW ⊢
  have HW := Lib.hid hW
  have hSh := HSH.out.next hb
  have hOw : OpnAt w1 (.slice oao opn.length ocap) opn := HO.out.next hb
  have HSH1 := Lib.hid hSh
  have HO1 := Lib.hid hOw
  have x1 := below_cell hb c1
  have x4 := below_cell hb d4
  have HB := Lib.hid hb
  have hwp := Drl.words_pos t
  clear hW hSh hOw hb c0 c1 d3 d4
  have hoi : (opn.length : Int) = 0 ∨ (0 : Int) < (opn.length : Int) := by omega
  by_cases k2 : ki = 2
  · have b2 : ((ki : Int) == 2) = true := by rw [k2]; rfl
    by_cases hl : (Drl.words t).length = 2
    · have e1 : (((Drl.words t).length : Int) != 2) = false := by simp [bne, hl]
      have i1 : (1 : Int) < ((Drl.words t).length : Int) := by omega
      obtain ⟨s1, hs1, y1⟩ := HW.out.str 1 (by omega)
      have hz1 : s1.size ≤ 65536 := by rw [← size_len, hs1]; have := HWS.out 1; have := HLI.out; omega
      have HS1 := Lib.hid hs1
      by_cases ho : 0 < opn.length
      · have ho' : (0 : Int) < (opn.length : Int) := by omega
        have H := Lib.hid (show Drl.rchk L K opn t ki th = 290 by unfold Drl.rchk; rw [if_pos k2, if_neg (by omega), if_pos ho])
        clear k2 hs1 hoi
        go_wp2_with fail
        go_ret
        exact ⟨by rw [H.out]; rfl, HB.out⟩
      · have ho' : ¬ (0 : Int) < (opn.length : Int) := by omega
        cases hnm : Drl.namedB (Drl.wd (Drl.words t) 1) with
        | false =>
          have H := Lib.hid (show Drl.rchk L K opn t ki th = 291 by unfold Drl.rchk; rw [if_pos k2, if_neg (by omega), if_neg ho, hnm]; rfl)
          have HN := Lib.hid hnm
          clear k2 hs1 hnm hoi
          go_wp2_with fail
          refine (rnamed_any s1 w1).mono ?_
          rintro e w2 ⟨rfl, rfl⟩
          rw [HS1.out, HN.out]
          go_wp2_with fail
          go_ret
          exact ⟨by rw [H.out]; rfl, HB.out⟩
        | true =>
          have H := Lib.hid (show Drl.rchk L K opn t ki th = if th = true then 291 else 0 by unfold Drl.rchk; rw [if_pos k2, if_neg (by omega), if_neg ho, hnm]; cases th <;> rfl)
          have HN := Lib.hid hnm
          have HT := Lib.hid (HTH.out (by omega))
          clear k2 hs1 hnm hoi
          go_wp2_with fail
          refine (rnamed_any s1 w1).mono ?_
          rintro e w2 ⟨rfl, rfl⟩
          rw [HS1.out, HN.out]
          go_wp2_with fail
          refine (rthere_any w1 R _ _ _ L K E HSH1.out s1 i (by omega) (by omega) HS.out.hL HS.out.hdef).mono ?_
          rintro e w3 ⟨r, rfl, hr, hb3⟩
          rw [HS1.out] at hr
          have hiff := HT.out r hr
          have HB3 := Lib.hid (HB.out.trans (hb3.mono HB.out.size))
          by_cases hr0 : 0 ≤ r
          · have e3 := hiff.1 hr0
            have HE := Lib.hid e3
            clear hr hiff e3 hb3
            go_wp2_with fail
            go_ret
            exact ⟨by rw [H.out, HE.out]; rfl, HB3.out⟩
          · have e3 : ¬ th = true := fun e => hr0 (hiff.2 e)
            have HE := Lib.hid e3
            clear hr hiff e3 hb3
            go_wp2_with fail
            go_ret
            exact ⟨by rw [H.out, if_neg HE.out]; rfl, HB3.out⟩
    · have e1 : (((Drl.words t).length : Int) != 2) = true := by simp [bne]; omega
      have H := Lib.hid (show Drl.rchk L K opn t ki th = 291 by unfold Drl.rchk; rw [if_pos k2, if_pos hl])
      clear k2 hl hoi
      go_wp2_with fail
      go_ret
      exact ⟨by rw [H.out]; rfl, HB.out⟩
  have b2 : ((ki : Int) == 2) = false := by simp; omega
  by_cases k3 : ki = 3
  · have b3 : ((ki : Int) == 3) = true := by rw [k3]; rfl
    by_cases hl : (Drl.words t).length = 2
    · have e1 : (((Drl.words t).length : Int) != 2) = false := by simp [bne, hl]
      have i1 : (1 : Int) < ((Drl.words t).length : Int) := by omega
      obtain ⟨s1, hs1, y1⟩ := HW.out.str 1 (by omega)
      have hz1 : s1.size ≤ 65536 := by rw [← size_len, hs1]; have := HWS.out 1; have := HLI.out; omega
      have HS1 := Lib.hid hs1
      have H := Lib.hid (show Drl.rchk L K opn t ki th = if (!Drl.rcountsB L K opn (Drl.wd (Drl.words t) 1)) = true then 292 else 0 by unfold Drl.rchk; rw [if_neg k2, if_pos k3]; simp [hl])
      clear k2 k3 hs1 hoi
      go_wp2_with fail
      refine (rcounts_any w1 R _ _ _ _ L K E opn HSH1.out HO1.out HS.out s1 hz1).mono ?_
      rintro e w3 ⟨rfl, hb3⟩
      have HB3 := Lib.hid (HB.out.trans (hb3.mono HB.out.size))
      rw [HS1.out]
      cases hc : Drl.rcountsB L K opn (Drl.wd (Drl.words t) 1) with
      | true =>
        have HC := Lib.hid hc
        clear hc hb3
        go_wp2_with fail
        go_ret
        exact ⟨by rw [H.out, HC.out]; rfl, HB3.out⟩
      | false =>
        have HC := Lib.hid hc
        clear hc hb3
        go_wp2_with fail
        go_ret
        exact ⟨by rw [H.out, HC.out]; rfl, HB3.out⟩
    · have e1 : (((Drl.words t).length : Int) != 2) = true := by simp [bne]; omega
      have H := Lib.hid (show Drl.rchk L K opn t ki th = 292 by unfold Drl.rchk; rw [if_neg k2, if_pos k3]; simp [hl])
      clear k2 k3 hl hoi
      go_wp2_with fail
      go_ret
      exact ⟨by rw [H.out]; rfl, HB.out⟩
  have b3 : ((ki : Int) == 3) = false := by simp; omega
  by_cases k4 : ki = 4
  · have b4 : ((ki : Int) == 4) = true := by rw [k4]; rfl
    by_cases hl : (Drl.words t).length = 4
    · have e1 : (((Drl.words t).length : Int) != 4) = false := by simp [bne, hl]
      have i1 : (1 : Int) < ((Drl.words t).length : Int) := by omega
      have i2 : (2 : Int) < ((Drl.words t).length : Int) := by omega
      have i3 : (3 : Int) < ((Drl.words t).length : Int) := by omega
      obtain ⟨s1, hs1, y1⟩ := HW.out.str 1 (by omega)
      obtain ⟨s2, hs2, y2⟩ := HW.out.str 2 (by omega)
      obtain ⟨s3, hs3, y3⟩ := HW.out.str 3 (by omega)
      have hz2 : s2.size ≤ 65536 := by rw [← size_len, hs2]; have := HWS.out 2; have := HLI.out; omega
      have hz3 : s3.size ≤ 65536 := by rw [← size_len, hs3]; have := HWS.out 3; have := HLI.out; omega
      have HS1 := Lib.hid hs1
      have HS2 := Lib.hid hs2
      have HS3 := Lib.hid hs3
      have Y3 := Lib.hid y3
      have H := Lib.hid (show Drl.rchk L K opn t ki th = if (decide (Drl.rlet (Drl.wd (Drl.words t) 1) < 0) || Drl.standsB L K opn (Drl.rlet (Drl.wd (Drl.words t) 1))) = true then 293 else if (!Drl.rcountsB L K opn (Drl.wd (Drl.words t) 2) || !Drl.rcountsB L K opn (Drl.wd (Drl.words t) 3)) = true then 292 else 0 by unfold Drl.rchk; rw [if_neg k2, if_neg k3, if_pos k4, if_neg (by omega)])
      clear k2 k3 k4 hs1 hs2 hs3 y3 hoi
      go_wp2_with fail
      refine (rletter_any s1 w1).mono ?_
      rintro e w2 ⟨rfl, rfl⟩
      rw [HS1.out]
      generalize hz : Drl.rlet (Drl.wd (Drl.words t) 1) = z at *
      by_cases hz0 : z < 0
      · have HZ := Lib.hid hz0
        clear hz
        go_wp2_with fail
        go_ret
        exact ⟨by rw [H.out, decide_eq_true HZ.out]; rfl, HB.out⟩
      · clear hz
        have HZ := Lib.hid (show decide (z < 0) = false by simp; omega)
        go_wp2_with fail
        refine (rstands_any w1 R _ _ _ _ L K E opn HSH1.out HO1.out _ HS.out.hn HS.out.hol HS.out.hL HS.out.hlt HS.out.hfor).mono ?_
        rintro e w3 ⟨rfl, hb3⟩
        have HB3 := Lib.hid (HB.out.trans (hb3.mono HB.out.size))
        have HSH3 := Lib.hid (HSH1.out.next hb3)
        have HO3 : OpnAt w3 (.slice oao opn.length ocap) opn := HO1.out.next hb3
        have HO3 := Lib.hid HO3
        have y2' := below_cell hb3 y2
        have y3' := below_cell hb3 Y3.out
        have Y3' := Lib.hid y3'
        cases hc : Drl.standsB L K opn z with
        | true =>
          have HC := Lib.hid hc
          clear hc hb3 y3'
          go_wp2_with fail
          go_ret
          exact ⟨by rw [H.out, HZ.out, HC.out]; rfl, HB3.out⟩
        | false =>
          have HC := Lib.hid hc
          clear hc hb3 y3'
          go_wp2_with fail
          refine (rcounts_any w3 R _ _ _ _ L K E opn HSH3.out HO3.out HS.out s2 hz2).mono ?_
          rintro e w4 ⟨rfl, hb4⟩
          have HB4 := Lib.hid (HB3.out.trans (hb4.mono HB3.out.size))
          have HSH4 := Lib.hid (HSH3.out.next hb4)
          have HO4 : OpnAt w4 (.slice oao opn.length ocap) opn := HO3.out.next hb4
          have HO4 := Lib.hid HO4
          have y4' := below_cell hb4 Y3'.out
          rw [HS2.out]
          cases hc2 : Drl.rcountsB L K opn (Drl.wd (Drl.words t) 2) with
          | false =>
            have HC2 := Lib.hid hc2
            clear hc2 hb4
            go_wp2_with fail
            go_ret
            exact ⟨by rw [H.out, HZ.out, HC.out, HC2.out]; rfl, HB4.out⟩
          | true =>
            have HC2 := Lib.hid hc2
            clear hc2 hb4
            go_wp2_with fail
            refine (rcounts_any w4 R _ _ _ _ L K E opn HSH4.out HO4.out HS.out s3 hz3).mono ?_
            rintro e w5 ⟨rfl, hb5⟩
            have HB5 := Lib.hid (HB4.out.trans (hb5.mono HB4.out.size))
            rw [HS3.out]
            cases hc3 : Drl.rcountsB L K opn (Drl.wd (Drl.words t) 3) with
            | false =>
              have HC3 := Lib.hid hc3
              clear hc3 hb5
              go_wp2_with fail
              go_ret
              exact ⟨by rw [H.out, HZ.out, HC.out, HC2.out, HC3.out]; rfl, HB5.out⟩
            | true =>
              have HC3 := Lib.hid hc3
              clear hc3 hb5
              go_wp2_with fail
              go_ret
              exact ⟨by rw [H.out, HZ.out, HC.out, HC2.out, HC3.out]; rfl, HB5.out⟩
    · have e1 : (((Drl.words t).length : Int) != 4) = true := by simp [bne]; omega
      have H := Lib.hid (show Drl.rchk L K opn t ki th = 293 by unfold Drl.rchk; rw [if_neg k2, if_neg k3, if_pos k4, if_pos hl])
      clear k2 k3 k4 hl hoi
      go_wp2_with fail
      go_ret
      exact ⟨by rw [H.out]; rfl, HB.out⟩
  have b4 : ((ki : Int) == 4) = false := by simp; omega
  by_cases k5 : ki = 5
  · have b5 : ((ki : Int) == 5) = true := by rw [k5]; rfl
    by_cases ho : opn.length = 0
    · have e1 : ((opn.length : Int) == 0) = true := by rw [ho]; rfl
      have H := Lib.hid (show Drl.rchk L K opn t ki th = 290 by unfold Drl.rchk; rw [if_neg k2, if_neg k3, if_neg k4, if_pos k5, if_pos ho])
      clear k2 k3 k4 k5 ho hoi
      go_wp2_with fail
      go_ret
      exact ⟨by rw [H.out]; rfl, HB.out⟩
    · have e1 : ((opn.length : Int) == 0) = false := beq_eq_false_iff_ne.2 (by omega)
      have H := Lib.hid (show Drl.rchk L K opn t ki th = 0 by unfold Drl.rchk; rw [if_neg k2, if_neg k3, if_neg k4, if_pos k5, if_neg ho])
      clear k2 k3 k4 k5 ho hoi
      go_wp2_with fail
      go_ret
      exact ⟨by rw [H.out]; rfl, HB.out⟩
  have b5 : ((ki : Int) == 5) = false := by simp; omega
  by_cases k6 : ki = 6
  · have b6 : ((ki : Int) == 6) = true := by rw [k6]; rfl
    by_cases hl : (Drl.words t).length = 2
    · have e1 : (((Drl.words t).length : Int) != 2) = false := by simp [bne, hl]
      have i1 : (1 : Int) < ((Drl.words t).length : Int) := by omega
      obtain ⟨s1, hs1, y1⟩ := HW.out.str 1 (by omega)
      have hz1 : s1.size ≤ 65536 := by rw [← size_len, hs1]; have := HWS.out 1; have := HLI.out; omega
      have HS1 := Lib.hid hs1
      have H := Lib.hid (show Drl.rchk L K opn t ki th = if (!Drl.namedB (Drl.wd (Drl.words t) 1) || !th) = true then 291 else 0 by unfold Drl.rchk; rw [if_neg k2, if_neg k3, if_neg k4, if_neg k5, if_pos k6]; simp [hl])
      have HT := Lib.hid (HTH.out (by omega))
      cases hnm : Drl.namedB (Drl.wd (Drl.words t) 1) with
      | false =>
        have HN := Lib.hid hnm
        clear k2 k3 k4 k5 k6 hs1 hnm hoi
        go_wp2_with fail
        refine (rnamed_any s1 w1).mono ?_
        rintro e w2 ⟨rfl, rfl⟩
        rw [HS1.out, HN.out]
        go_wp2_with fail
        go_ret
        exact ⟨by rw [H.out, HN.out]; rfl, HB.out⟩
      | true =>
        have HN := Lib.hid hnm
        clear k2 k3 k4 k5 k6 hs1 hnm hoi
        go_wp2_with fail
        refine (rnamed_any s1 w1).mono ?_
        rintro e w2 ⟨rfl, rfl⟩
        rw [HS1.out, HN.out]
        go_wp2_with fail
        refine (rthere_any w1 R _ _ _ L K E HSH1.out s1 i (by omega) (by omega) HS.out.hL HS.out.hdef).mono ?_
        rintro e w3 ⟨r, rfl, hr, hb3⟩
        rw [HS1.out] at hr
        have hiff := HT.out r hr
        have HB3 := Lib.hid (HB.out.trans (hb3.mono HB.out.size))
        by_cases hr0 : 0 ≤ r
        · have e3 := hiff.1 hr0
          have HE := Lib.hid e3
          clear hr hiff e3 hb3
          go_wp2_with fail
          go_ret
          exact ⟨by rw [H.out, HN.out, HE.out]; rfl, HB3.out⟩
        · have e3 : th = false := by
            cases th with
            | false => rfl
            | true => exact absurd (hiff.2 rfl) hr0
          have HE := Lib.hid e3
          clear hr hiff e3 hb3
          go_wp2_with fail
          go_ret
          exact ⟨by rw [H.out, HN.out, HE.out]; rfl, HB3.out⟩
    · have e1 : (((Drl.words t).length : Int) != 2) = true := by simp [bne]; omega
      have H := Lib.hid (show Drl.rchk L K opn t ki th = 291 by unfold Drl.rchk; rw [if_neg k2, if_neg k3, if_neg k4, if_neg k5, if_pos k6]; simp [hl])
      clear k2 k3 k4 k5 k6 hl hoi
      go_wp2_with fail
      go_ret
      exact ⟨by rw [H.out]; rfl, HB.out⟩
  have b6 : ((ki : Int) == 6) = false := by simp; omega
  have H := Lib.hid (show Drl.rchk L K opn t ki th = 0 by unfold Drl.rchk; rw [if_neg k2, if_neg k3, if_neg k4, if_neg k5, if_neg k6])
  clear k2 k3 k4 k5 k6 hoi
  go_wp2_with fail
  go_ret
  exact ⟨by rw [H.out]; rfl, HB.out⟩
end Go.Proofs.YtfbmlnkgjgnnhaaGreatDoor
