import Derived.Test.YtfbmlnkgjgnnhaaGreatDoorJR8
set_option linter.unusedSimpArgs false
set_option linter.unusedVariables false
namespace Go.Proofs.YtfbmlnkgjgnnhaaGreatDoor
open Go.RowKit

/-- what the reference's questions lean on -/
structure Side (L : List Drl.Str) (K : List Nat) (E : List Int) (opn : List Nat) : Prop where
  hn : L.length ≤ 65536
  hol : opn.length ≤ 65536
  hL : ∀ t ∈ L, t.length ≤ 65536
  hlt : ∀ m ∈ opn, m < K.length ∧ m < L.length
  hfor : ∀ m ∈ opn, ∀ (hm : m < K.length) (hl : m < L.length), K[m] = 4 → 2 ≤ (Drl.words L[m]).length
  hdef : ∀ k (hk : k < K.length) (hke : k < E.length) (hkl : k < L.length), K[k] = 2 → 0 ≤ E[k] → 2 ≤ (Drl.words L[k]).length

theorem rlet_range (s : Drl.Str) : -1 ≤ Drl.rlet s ∧ Drl.rlet s ≤ 25 := by
  unfold Drl.rlet
  split
  · next h =>
    obtain ⟨c, rfl, hc⟩ := Drl.letterB_ex h
    have := Drl.isLet_nat hc
    simp only [List.headD_cons]; omega
  · omega
theorem rnum_range (s : Drl.Str) : -1 ≤ Drl.rnum s ∧ Drl.rnum s ≤ 999999 := by
  unfold Drl.rnum
  split
  · next h => have := Drl.numVal_lt s h; omega
  · omega

set_option maxRecDepth 100000 in
set_option maxHeartbeats 2000000 in
theorem rcounts_any (w : World) (R : Nat) (lv kv ev ov : Value) (L : List Drl.Str) (K : List Nat) (E : List Int) (opn : List Nat) (h : Sh w R lv kv ev L K E) (ho : OpnAt w ov opn) (hS : Side L K E opn) (s : ByteArray) (hs : s.size ≤ 65536) :
    Calls Tryz.prog 71 #[.pointer (some ⟨R, 0, none⟩), .string s, ov] w fun e w' => e = .returned (.bool (Drl.rcountsB L K opn s.data.toList)) ∧ Below w.heap.size w w' := by
  have HS := Lib.hid hS
  have H := Lib.hid h
  have HO := Lib.hid ho
  clear hS h ho
  by_cases hn : 0 ≤ Drl.rnum s.data.toList
  · have hr := Lib.hid (show Drl.rcountsB L K opn s.data.toList = decide (Drl.rnum s.data.toList ≤ 1000) by rw [Drl.rcountsB, if_pos hn])
    go_enter Tryz.func71, Tryz.ntmps71
    go_wp2_with fail
    refine (rnumber_any s w (by omega)).mono ?_
    rintro e w1 ⟨rfl, rfl⟩
    go_wp2_with fail
    go_ret
    exact ⟨ret_bool hr.out.symm, Below.refl _ _⟩
  · have hn' : ¬ (0 : Int) ≤ Drl.rnum s.data.toList := hn
    have HR := Lib.hid (show Drl.rcountsB L K opn s.data.toList = _ by rw [Drl.rcountsB, if_neg hn])
    by_cases h2 : s.size = 2
    · have h0s : 0 < s.size := by omega
      by_cases h36 : (s[0]'h0s).toNat = 36
      · have e36 : (((s[0]'h0s).toNat : Int) != 36) = false := by simp [bne, h36]
        have e2 : ((s.size : Int) != 2) = false := by simp [bne, h2]
        have hd : s.data.toList.headD 0 = s[0]'h0s := head_get s h0s
        have hr := HR.out
        rw [hd, size_len, decide_eq_true h2, decide_eq_true h36, Bool.true_and, Bool.true_and] at hr
        have c1 : (1 : Int) ≤ (s.size : Int) := by omega
        obtain ⟨z, hz⟩ : ∃ z, Drl.rlet (s.data.toList.drop 1) = z := ⟨_, rfl⟩
        have HX := Lib.hid (show Drl.rlet (s.extract 1 2).data.toList = z from by have := extract_drop s 1; rw [h2] at this; rw [this]; exact hz)
        rw [hz] at hr
        have HR2 := Lib.hid hr
        clear hr hd h36 HR hz
        by_cases hl : 0 ≤ z
        · go_enter Tryz.func71, Tryz.ntmps71
          go_wp2_with fail
          refine (rnumber_any s w (by omega)).mono ?_
          rintro e w1 ⟨rfl, rfl⟩
          go_wp2_with fail
          refine (rletter_any (s.extract 1 2) w).mono ?_
          rintro e w1 ⟨rfl, rfl⟩
          rw [HX.out]
          go_wp2_with fail
          refine (rstands_any w R lv kv ev ov L K E opn H.out HO.out _ HS.out.hn HS.out.hol HS.out.hL HS.out.hlt HS.out.hfor).mono ?_
          rintro e w1 ⟨rfl, hb⟩
          go_wp2_with fail
          go_ret
          exact ⟨ret_bool (by rw [HR2.out, decide_eq_true hl, Bool.true_and]), hb⟩
        · go_enter Tryz.func71, Tryz.ntmps71
          go_wp2_with fail
          refine (rnumber_any s w (by omega)).mono ?_
          rintro e w1 ⟨rfl, rfl⟩
          go_wp2_with fail
          refine (rletter_any (s.extract 1 2) w).mono ?_
          rintro e w1 ⟨rfl, rfl⟩
          rw [HX.out]
          go_wp2_with fail
          go_ret
          exact ⟨ret_bool (by rw [HR2.out, decide_eq_false (show ¬ (0 : Int) ≤ z by omega)]; rfl), Below.refl _ _⟩
      · have e36 : (((s[0]'h0s).toNat : Int) != 36) = true := by simp [bne]; omega
        have e2 : ((s.size : Int) != 2) = false := by simp [bne, h2]
        have hd : s.data.toList.headD 0 = s[0]'h0s := head_get s h0s
        have hr := HR.out
        rw [hd, decide_eq_false h36, Bool.false_and, Bool.and_false] at hr
        have HR2 := Lib.hid hr
        clear hr hd h36 HR
        go_enter Tryz.func71, Tryz.ntmps71
        go_wp2_with fail
        refine (rnumber_any s w (by omega)).mono ?_
        rintro e w1 ⟨rfl, rfl⟩
        go_wp2_with fail
        go_ret
        exact ⟨ret_bool HR2.out.symm, Below.refl _ _⟩
    · have e2 : ((s.size : Int) != 2) = true := by simp [bne]; omega
      have hr := HR.out
      rw [size_len, decide_eq_false h2, Bool.false_and] at hr
      have HR2 := Lib.hid hr
      clear hr HR
      go_enter Tryz.func71, Tryz.ntmps71
      go_wp2_with fail
      refine (rnumber_any s w (by omega)).mono ?_
      rintro e w1 ⟨rfl, rfl⟩
      go_wp2_with fail
      go_ret
      exact ⟨ret_bool HR2.out.symm, Below.refl _ _⟩
end Go.Proofs.YtfbmlnkgjgnnhaaGreatDoor
