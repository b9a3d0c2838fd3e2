import Derived.Test.YtfbmlnkgjgnnhaaGreatDoorD1
import Derived.Test.YtfbmlnkgjgnnhaaGreatDoorE1
import Derived.Test.YtfbmlnkgjgnnhaaGreatDoorP19
namespace Go.Proofs.YtfbmlnkgjgnnhaaGreatDoor
open Go.RowKit

set_option maxRecDepth 100000
set_option maxHeartbeats 4000000

theorem small_nat (n : Int) (a : Nat) (h : smallZ n 1000 = (a : Int)) (w : World) : Calls Tryz.prog 14 #[.int .i64 n, .int .i64 1000] w fun e w' => e = .returned (.int .i64 a) ∧ w = w' := by
  refine (small_any n 1000 w (by decide) (by decide)).mono ?_
  rintro e w' ⟨rfl, rfl⟩
  exact ⟨by rw [h], rfl⟩

/-- what the law's Unroll answers -/
theorem turns_unroll (a b : Nat) (line : Bool) (ha : a ≤ 1000) (hb : b ≤ 1000) : ∃ k, ∀ s : ByteArray, s.data.toList = Drl.turnsText a b line → Drl.unroll k s.data.toList = some (Drl.turnsR a b line) := by
  obtain ⟨k, r, hr⟩ := Drl.unroll_some (Drl.turnsText a b line)
  refine ⟨k, fun s hs => ?_⟩
  rw [hs, hr, Drl.turns_answer ha hb hr]
theorem turns_bytes (a b : Nat) : ((⟨#[99, 108, 105, 101, 110, 116, 115, 32, 49, 10, 114, 101, 112, 101, 97, 116, 32]⟩ : ByteArray) ++ ⟨(Lib.decDigits a).toArray⟩ ++ ⟨#[10, 114, 101, 112, 101, 97, 116, 32]⟩ ++ ⟨(Lib.decDigits b).toArray⟩ ++ ⟨#[10]⟩ ++ ⟨#[114, 111, 117, 110, 100, 10]⟩ ++ ⟨#[101, 110, 100, 10, 101, 110, 100, 10]⟩).data.toList = Drl.turnsText a b true := by
  simp [Drl.turnsText, Drl.turnsLines, Drl.joinNl, Drl.tHead, Drl.wRepeat, Drl.wRound, Drl.wEnd]
theorem turns_bytes0 (a b : Nat) : ((⟨#[99, 108, 105, 101, 110, 116, 115, 32, 49, 10, 114, 101, 112, 101, 97, 116, 32]⟩ : ByteArray) ++ ⟨(Lib.decDigits a).toArray⟩ ++ ⟨#[10, 114, 101, 112, 101, 97, 116, 32]⟩ ++ ⟨(Lib.decDigits b).toArray⟩ ++ ⟨#[10]⟩ ++ ⟨#[]⟩ ++ ⟨#[101, 110, 100, 10, 101, 110, 100, 10]⟩).data.toList = Drl.turnsText a b false := by
  simp [Drl.turnsText, Drl.turnsLines, Drl.joinNl, Drl.tHead, Drl.wRepeat, Drl.wEnd]

theorem turns_line_ok (n1 n2 : Int) (a b : Nat) (h1 : smallZ n1 1000 = (a : Int)) (h2 : smallZ n2 1000 = (b : Int)) (ha : a ≤ 1000) (hb : b ≤ 1000) (hab : a * b ≤ 4096) (w : World) (hE : Env w) :
    Calls Tryz.prog 5 #[.int .i64 n1, .int .i64 n2, .bool true] w fun e w' => e = .returned (.bool true) ∧ Below w.heap.size w w' := by
  obtain ⟨P, hP⟩ : ∃ P : Nat, P = a * b := ⟨_, rfl⟩
  have hPle : P ≤ 1000000 := by rw [hP]; exact Nat.le_trans (Nat.mul_le_mul ha hb) (by decide)
  have m2 : (a : Int) * (1 + (b : Int)) = (a : Int) + (P : Int) := by rw [hP]; push_cast; rw [Int.mul_add, Int.mul_one]
  have m1 : (a : Int) * (b : Int) = (P : Int) := by rw [hP]; push_cast; rfl
  have HP := Lib.hid hP
  have hP4 : P ≤ 4096 := by rw [hP]; exact hab
  have HANS := Lib.hid (show Drl.turnsR a b true = .ok (List.replicate P Drl.rnd, 1) by rw [hP]; simp [Drl.turnsR, hab])
  have hwr1 : IntKind.i64.wrap ((a : Int) + (P : Int)) = (a : Int) + (P : Int) := IntWalk.i64_in _ (by omega)
  clear hab hP
  have HE := Lib.hid hE
  have H1 := Lib.hid h1
  have H2 := Lib.hid h2
  obtain ⟨k, hk⟩ := turns_unroll a b true ha hb
  have HU := Lib.hid hk
  have hla := Drl.dec_len4 a ha
  have hlb := Drl.dec_len4 b hb
  clear hE h1 h2 hk
  go_enter Tryz.func5, Tryz.ntmps5
  go_wp2_with fail
  refine (drilled_ok w HE.out).mono ?_
  rintro e w1 ⟨rfl, hb1⟩
  have HB1 := Lib.hid hb1
  have HE1 := Lib.hid (HE.out.next hb1)
  clear hb1
  go_wp2_with fail
  refine (small_nat n1 a H1.out _).mono ?_
  rintro e w' ⟨rfl, rfl⟩
  go_wp2_with fail
  refine (small_nat n2 b H2.out _).mono ?_
  rintro e w' ⟨rfl, rfl⟩
  go_wp2_with fail
  refine (digits_any a _ (by omega)).mono ?_
  rintro e w2 ⟨rfl, hb2⟩
  have HB2 := Lib.hid (HB1.out.trans (hb2.mono HB1.out.size))
  have HE2 := Lib.hid (HE1.out.next hb2)
  clear hb2
  go_wp2_with fail
  refine (digits_any b _ (by omega)).mono ?_
  rintro e w3 ⟨rfl, hb3⟩
  have HB3 := Lib.hid (HB2.out.trans (hb3.mono HB2.out.size))
  have HE3 := Lib.hid (HE2.out.next hb3)
  clear hb3
  go_wp2_with fail
  refine (unroll_ok k _ w3 HE3.out _ (HU.out _ (turns_bytes a b))).mono ?_
  rw [HANS.out]
  rintro e w4 ⟨hb4, sv, rfl, hown⟩
  have HB4 := Lib.hid (HB3.out.trans (hb4.mono HB3.out.size))
  clear hb4
  obtain ⟨ao, cap, rfl, _⟩ := StepsOwn.view hown
  clear hown
  rw [List.length_replicate]
  have e1 : ((P : Int) == (P : Int)) = true := by simp
  have l1 : 1 + (a : Int) + ((a : Int) + (P : Int)) ≤ 65536 := by omega
  have l2 : (P : Int) ≤ 4096 := by omega
  go_wp2_with fail
  go_ret
  exact ⟨rfl, HB4.out⟩

theorem turns_line_bad (n1 n2 : Int) (a b : Nat) (h1 : smallZ n1 1000 = (a : Int)) (h2 : smallZ n2 1000 = (b : Int)) (ha : a ≤ 1000) (hb : b ≤ 1000) (hab : 4096 < a * b) (w : World) (hE : Env w) (hV : ErrVar w) :
    Calls Tryz.prog 5 #[.int .i64 n1, .int .i64 n2, .bool true] w fun e w' => e = .returned (.bool true) ∧ Below w.heap.size w w' := by
  obtain ⟨P, hP⟩ : ∃ P : Nat, P = a * b := ⟨_, rfl⟩
  have hPle : P ≤ 1000000 := by rw [hP]; exact Nat.le_trans (Nat.mul_le_mul ha hb) (by decide)
  have m2 : (a : Int) * (1 + (b : Int)) = (a : Int) + (P : Int) := by rw [hP]; push_cast; rw [Int.mul_add, Int.mul_one]
  have m1 : (a : Int) * (b : Int) = (P : Int) := by rw [hP]; push_cast; rfl
  have HP := Lib.hid hP
  have hP4 : 4096 < P := by rw [hP]; exact hab
  have HANS := Lib.hid (show Drl.turnsR a b true = .error (3, 294) by simp [Drl.turnsR, show ¬ a * b ≤ 4096 by omega])
  have hwr1 : IntKind.i64.wrap ((a : Int) + (P : Int)) = (a : Int) + (P : Int) := IntWalk.i64_in _ (by omega)
  have HV := Lib.hid hV
  have hbp : 0 < b := by
    rcases Nat.eq_zero_or_pos b with h | h
    · subst h; simp at hP; omega
    · exact h
  have hb0 : ((b : Int) == 0) = false := by simp; omega
  obtain ⟨t, ht⟩ : ∃ t : Nat, t = 4096 / b := ⟨_, rfl⟩
  obtain ⟨q, hq⟩ : ∃ q : Nat, q = 4096 % b := ⟨_, rfl⟩
  have htq : b * t + q = 4096 := by rw [ht, hq]; exact Nat.div_add_mod 4096 b
  have hdv : Int.tdiv 4096 (b : Int) = (t : Int) := by rw [Int.tdiv_eq_ediv_of_nonneg (by omega), ht]; rfl
  have hrm : Int.tmod 4096 (b : Int) = (q : Int) := by rw [Int.tmod_eq_emod_of_nonneg (by omega), hq]; rfl
  have ht4 : t ≤ 4096 := by rw [ht]; exact Nat.div_le_self _ _
  have m3 : (t : Int) * (b : Int) = 4096 - (q : Int) := by
    have : ((b * t + q : Nat) : Int) = 4096 := by rw [htq]; rfl
    push_cast at this
    rw [Int.mul_comm] at this
    omega
  have hq4 : q ≤ 4096 := by omega
  have HT := Lib.hid ht
  have HQ := Lib.hid hq
  clear hab hP hV htq ht hq
  have HE := Lib.hid hE
  have H1 := Lib.hid h1
  have H2 := Lib.hid h2
  obtain ⟨k, hk⟩ := turns_unroll a b true ha hb
  have HU := Lib.hid hk
  have hla := Drl.dec_len4 a ha
  have hlb := Drl.dec_len4 b hb
  clear hE h1 h2 hk
  go_enter Tryz.func5, Tryz.ntmps5
  go_wp2_with fail
  refine (drilled_ok w HE.out).mono ?_
  rintro e w1 ⟨rfl, hb1⟩
  have HB1 := Lib.hid hb1
  have HE1 := Lib.hid (HE.out.next hb1)
  clear hb1
  go_wp2_with fail
  refine (small_nat n1 a H1.out _).mono ?_
  rintro e w' ⟨rfl, rfl⟩
  go_wp2_with fail
  refine (small_nat n2 b H2.out _).mono ?_
  rintro e w' ⟨rfl, rfl⟩
  go_wp2_with fail
  refine (digits_any a _ (by omega)).mono ?_
  rintro e w2 ⟨rfl, hb2⟩
  have HB2 := Lib.hid (HB1.out.trans (hb2.mono HB1.out.size))
  have HE2 := Lib.hid (HE1.out.next hb2)
  clear hb2
  go_wp2_with fail
  refine (digits_any b _ (by omega)).mono ?_
  rintro e w3 ⟨rfl, hb3⟩
  have HB3 := Lib.hid (HB2.out.trans (hb3.mono HB2.out.size))
  have HE3 := Lib.hid (HE2.out.next hb3)
  clear hb3
  go_wp2_with fail
  refine (unroll_ok k _ w3 HE3.out _ (HU.out _ (turns_bytes a b))).mono ?_
  rw [HANS.out]
  rintro e w4 ⟨hb4, v, rfl, herr⟩
  have HB4 := Lib.hid (HB3.out.trans (hb4.mono HB3.out.size))
  have HERR := Lib.hid herr
  have HV4 := Lib.hid (HV.out.next HB4.out)
  obtain ⟨bk, rfl, hbk⟩ := herr
  clear hb4 hbk
  have l2 : ¬ (P : Int) ≤ 4096 := by omega
  have l3 : 4096 < (P : Int) := by omega
  by_cases hT : 1 + (a : Int) + ((a : Int) + (P : Int)) ≤ 65536
  all_goals
    go_wp2_with fail
    refine (code_err _ _ _ w4 HV4.out HERR.out).mono ?_
    rintro e w5 ⟨rfl, hb5⟩
    have HB5 := Lib.hid (HB4.out.trans (hb5.mono HB4.out.size))
    have HERR5 := Lib.hid (HERR.out.next hb5)
    have HV5 := Lib.hid (HV4.out.next hb5)
    rw [show ((294 : Nat) : Int) = 294 from rfl]
    clear hb5
    go_wp2_with fail
    refine (place_err _ _ _ w5 HV5.out HERR5.out).mono ?_
    rintro e w6 ⟨rfl, hb6⟩
    have HB6 := Lib.hid (HB5.out.trans (hb6.mono HB5.out.size))
    rw [show ((3 : Nat) : Int) = 3 from rfl]
    clear hb6
    go_wp2_with fail
    go_ret
    exact ⟨rfl, HB6.out⟩

theorem turns_none_ok (n1 n2 : Int) (a b : Nat) (h1 : smallZ n1 1000 = (a : Int)) (h2 : smallZ n2 1000 = (b : Int)) (ha : a ≤ 1000) (hb : b ≤ 1000) (hab : 1 + a * (2 + b) ≤ 65536) (w : World) (hE : Env w) :
    Calls Tryz.prog 5 #[.int .i64 n1, .int .i64 n2, .bool false] w fun e w' => e = .returned (.bool true) ∧ Below w.heap.size w w' := by
  obtain ⟨P, hP⟩ : ∃ P : Nat, P = a * b := ⟨_, rfl⟩
  have hPle : P ≤ 1000000 := by rw [hP]; exact Nat.le_trans (Nat.mul_le_mul ha hb) (by decide)
  have m2 : (a : Int) * (1 + (b : Int)) = (a : Int) + (P : Int) := by rw [hP]; push_cast; rw [Int.mul_add, Int.mul_one]
  have m1 : (a : Int) * (b : Int) = (P : Int) := by rw [hP]; push_cast; rfl
  have HP := Lib.hid hP
  have hab2 : 1 + (a * 2 + P) ≤ 65536 := by rw [hP]; rw [Nat.mul_add] at hab; exact hab
  have HANS := Lib.hid (show Drl.turnsR a b false = .ok ([], 1) by simp [Drl.turnsR, hab])
  have hwr1 : IntKind.i64.wrap ((a : Int) + (P : Int)) = (a : Int) + (P : Int) := IntWalk.i64_in _ (by omega)
  clear hab hP
  have HE := Lib.hid hE
  have H1 := Lib.hid h1
  have H2 := Lib.hid h2
  obtain ⟨k, hk⟩ := turns_unroll a b false ha hb
  have HU := Lib.hid hk
  have hla := Drl.dec_len4 a ha
  have hlb := Drl.dec_len4 b hb
  clear hE h1 h2 hk
  go_enter Tryz.func5, Tryz.ntmps5
  go_wp2_with fail
  refine (drilled_ok w HE.out).mono ?_
  rintro e w1 ⟨rfl, hb1⟩
  have HB1 := Lib.hid hb1
  have HE1 := Lib.hid (HE.out.next hb1)
  clear hb1
  go_wp2_with fail
  refine (small_nat n1 a H1.out _).mono ?_
  rintro e w' ⟨rfl, rfl⟩
  go_wp2_with fail
  refine (small_nat n2 b H2.out _).mono ?_
  rintro e w' ⟨rfl, rfl⟩
  go_wp2_with fail
  refine (digits_any a _ (by omega)).mono ?_
  rintro e w2 ⟨rfl, hb2⟩
  have HB2 := Lib.hid (HB1.out.trans (hb2.mono HB1.out.size))
  have HE2 := Lib.hid (HE1.out.next hb2)
  clear hb2
  go_wp2_with fail
  refine (digits_any b _ (by omega)).mono ?_
  rintro e w3 ⟨rfl, hb3⟩
  have HB3 := Lib.hid (HB2.out.trans (hb3.mono HB2.out.size))
  have HE3 := Lib.hid (HE2.out.next hb3)
  clear hb3
  go_wp2_with fail
  refine (unroll_ok k _ w3 HE3.out _ (HU.out _ (turns_bytes0 a b))).mono ?_
  rw [HANS.out]
  rintro e w4 ⟨hb4, sv, rfl, hown⟩
  have HB4 := Lib.hid (HB3.out.trans (hb4.mono HB3.out.size))
  clear hb4
  obtain ⟨ao, cap, rfl, _⟩ := StepsOwn.view hown
  clear hown
  rw [List.length_nil]
  have l1 : 1 + (a : Int) + ((a : Int) + (P : Int)) ≤ 65536 := by omega
  go_wp2_with fail
  go_ret
  exact ⟨rfl, HB4.out⟩

theorem turns_none_bad (n1 n2 : Int) (a b : Nat) (h1 : smallZ n1 1000 = (a : Int)) (h2 : smallZ n2 1000 = (b : Int)) (ha : a ≤ 1000) (hb : b ≤ 1000) (hab : ¬ 1 + a * (2 + b) ≤ 65536) (w : World) (hE : Env w) (hV : ErrVar w) :
    Calls Tryz.prog 5 #[.int .i64 n1, .int .i64 n2, .bool false] w fun e w' => e = .returned (.bool true) ∧ Below w.heap.size w w' := by
  obtain ⟨P, hP⟩ : ∃ P : Nat, P = a * b := ⟨_, rfl⟩
  have hPle : P ≤ 1000000 := by rw [hP]; exact Nat.le_trans (Nat.mul_le_mul ha hb) (by decide)
  have m2 : (a : Int) * (1 + (b : Int)) = (a : Int) + (P : Int) := by rw [hP]; push_cast; rw [Int.mul_add, Int.mul_one]
  have m1 : (a : Int) * (b : Int) = (P : Int) := by rw [hP]; push_cast; rfl
  have HP := Lib.hid hP
  have hab2 : ¬ 1 + (a * 2 + P) ≤ 65536 := by rw [hP]; rw [Nat.mul_add] at hab; exact hab
  have HANS := Lib.hid (show Drl.turnsR a b false = .error (Drl.late b, 294) by simp [Drl.turnsR, hab])
  have hwr1 : IntKind.i64.wrap ((a : Int) + (P : Int)) = (a : Int) + (P : Int) := IntWalk.i64_in _ (by omega)
  have HV := Lib.hid hV
  have HAB := Lib.hid hab
  clear hab hP hV
  have HE := Lib.hid hE
  have H1 := Lib.hid h1
  have H2 := Lib.hid h2
  obtain ⟨k, hk⟩ := turns_unroll a b false ha hb
  have HU := Lib.hid hk
  have hla := Drl.dec_len4 a ha
  have hlb := Drl.dec_len4 b hb
  clear hE h1 h2 hk
  go_enter Tryz.func5, Tryz.ntmps5
  go_wp2_with fail
  refine (drilled_ok w HE.out).mono ?_
  rintro e w1 ⟨rfl, hb1⟩
  have HB1 := Lib.hid hb1
  have HE1 := Lib.hid (HE.out.next hb1)
  clear hb1
  go_wp2_with fail
  refine (small_nat n1 a H1.out _).mono ?_
  rintro e w' ⟨rfl, rfl⟩
  go_wp2_with fail
  refine (small_nat n2 b H2.out _).mono ?_
  rintro e w' ⟨rfl, rfl⟩
  go_wp2_with fail
  refine (digits_any a _ (by omega)).mono ?_
  rintro e w2 ⟨rfl, hb2⟩
  have HB2 := Lib.hid (HB1.out.trans (hb2.mono HB1.out.size))
  have HE2 := Lib.hid (HE1.out.next hb2)
  clear hb2
  go_wp2_with fail
  refine (digits_any b _ (by omega)).mono ?_
  rintro e w3 ⟨rfl, hb3⟩
  have HB3 := Lib.hid (HB2.out.trans (hb3.mono HB2.out.size))
  have HE3 := Lib.hid (HE2.out.next hb3)
  clear hb3
  go_wp2_with fail
  refine (unroll_ok k _ w3 HE3.out _ (HU.out _ (turns_bytes0 a b))).mono ?_
  rw [HANS.out]
  rintro e w4 ⟨hb4, v, rfl, herr⟩
  have HB4 := Lib.hid (HB3.out.trans (hb4.mono HB3.out.size))
  have HERR := Lib.hid herr
  have HV4 := Lib.hid (HV.out.next HB4.out)
  obtain ⟨bk, rfl, hbk⟩ := herr
  clear hb4 hbk
  have l1 : ¬ 1 + (a : Int) + ((a : Int) + (P : Int)) ≤ 65536 := by omega
  go_wp2_with fail
  go_loop [16, 17] (fun cv iv => ∃ (t c : Nat), t ≤ a ∧ iv = .int .i64 t ∧ cv = .int .i64 c ∧ c = 1 + t * (2 + b) ∧ c ≤ 65536) (fun _ iv => a - (intOf iv).toNat)
  case atStart => exact ⟨0, 1, Nat.zero_le _, rfl, rfl, by simp, by decide⟩
  case round =>
    obtain ⟨t, c, hta, rfl, rfl, hc, hcl⟩ := hrel
    have hlt : t < a := by
      rcases Nat.lt_or_ge t a with h | h
      · exact h
      · exfalso
        obtain rfl : t = a := by omega
        have := HAB.out
        omega
    have hlt' : (t : Int) < (a : Int) := by omega
    have hs : (t + 1) * (2 + b) = t * (2 + b) + (2 + b) := by rw [Nat.add_mul, Nat.one_mul]
    by_cases hc1 : c = 65536
    · have hl : (Drl.late b : Nat) = 1 := Drl.late_one b t (by omega)
      have g1 : 65536 < (c : Int) + 1 := by omega
      have HL := Lib.hid hl
      clear hl hs hc hc1
      go_wp2_with fail
      refine (code_err _ _ _ w4 HV4.out HERR.out).mono ?_
      rintro e w5 ⟨rfl, hb5⟩
      have HB5 := Lib.hid (HB4.out.trans (hb5.mono HB4.out.size))
      have HERR5 := Lib.hid (HERR.out.next hb5)
      have HV5 := Lib.hid (HV4.out.next hb5)
      rw [show ((294 : Nat) : Int) = 294 from rfl]
      clear hb5
      go_wp2_with fail
      refine (place_err _ _ _ w5 HV5.out HERR5.out).mono ?_
      rintro e w6 ⟨rfl, hb6⟩
      have HB6 := Lib.hid (HB5.out.trans (hb6.mono HB5.out.size))
      rw [HL.out, show ((1 : Nat) : Int) = 1 from rfl]
      clear hb6
      go_wp2_with fail
      go_ret
      exact ⟨rfl, HB6.out⟩
    · have g1 : ¬ 65536 < (c : Int) + 1 := by omega
      by_cases hc2 : 65536 < c + 1 + 1 + b
      · have hl : (Drl.late b : Nat) = 2 := Drl.late_two b t (by omega) (by omega)
        have g2 : 65536 < (c : Int) + 1 + 1 + (b : Int) := by omega
        have HL := Lib.hid hl
        clear hl hs hc
        go_wp2_with fail
        refine (code_err _ _ _ w4 HV4.out HERR.out).mono ?_
        rintro e w5 ⟨rfl, hb5⟩
        have HB5 := Lib.hid (HB4.out.trans (hb5.mono HB4.out.size))
        have HERR5 := Lib.hid (HERR.out.next hb5)
        have HV5 := Lib.hid (HV4.out.next hb5)
        rw [show ((294 : Nat) : Int) = 294 from rfl]
        clear hb5
        go_wp2_with fail
        refine (place_err _ _ _ w5 HV5.out HERR5.out).mono ?_
        rintro e w6 ⟨rfl, hb6⟩
        have HB6 := Lib.hid (HB5.out.trans (hb6.mono HB5.out.size))
        rw [HL.out, show ((2 : Nat) : Int) = 2 from rfl]
        clear hb6
        go_wp2_with fail
        go_ret
        exact ⟨rfl, HB6.out⟩
      · have g2 : ¬ 65536 < (c : Int) + 1 + 1 + (b : Int) := by omega
        have HS := Lib.hid hs
        have HCC := Lib.hid hc
        clear hs hc
        go_wp2_with fail
        go_round
        case rel => exact ⟨t + 1, c + 1 + 1 + b, by omega, by go_num, by go_num, by rw [HS.out, HCC.out]; omega, by omega⟩
        case measure => simp [intOf]; omega

theorem turns_walk (n1 n2 : Int) (line : Bool) (w : World) (hE : Env w) (hV : ErrVar w) :
    Calls Tryz.prog 5 #[.int .i64 n1, .int .i64 n2, .bool line] w fun e w' => e = .returned (.bool true) ∧ Below w.heap.size w w' := by
  obtain ⟨p1, p2⟩ := smallZ_in n1 1000 (by decide)
  obtain ⟨q1, q2⟩ := smallZ_in n2 1000 (by decide)
  have h1 : smallZ n1 1000 = ((smallZ n1 1000).toNat : Int) := by omega
  have h2 : smallZ n2 1000 = ((smallZ n2 1000).toNat : Int) := by omega
  have ha : (smallZ n1 1000).toNat ≤ 1000 := by omega
  have hb : (smallZ n2 1000).toNat ≤ 1000 := by omega
  cases line with
  | true =>
    by_cases hab : (smallZ n1 1000).toNat * (smallZ n2 1000).toNat ≤ 4096
    · exact turns_line_ok n1 n2 _ _ h1 h2 ha hb hab w hE
    · exact turns_line_bad n1 n2 _ _ h1 h2 ha hb (by omega) w hE hV
  | false =>
    by_cases hab : 1 + (smallZ n1 1000).toNat * (2 + (smallZ n2 1000).toNat) ≤ 65536
    · exact turns_none_ok n1 n2 _ _ h1 h2 ha hb hab w hE
    · exact turns_none_bad n1 n2 _ _ h1 h2 ha hb hab w hE hV
end Go.Proofs.YtfbmlnkgjgnnhaaGreatDoor
