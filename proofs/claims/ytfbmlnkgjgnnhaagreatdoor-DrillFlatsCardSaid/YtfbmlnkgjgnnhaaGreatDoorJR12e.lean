import Derived.Test.YtfbmlnkgjgnnhaaGreatDoorJR12
set_option linter.unusedSimpArgs false
set_option linter.unusedVariables false
namespace Go.Proofs.YtfbmlnkgjgnnhaaGreatDoor
open Go.RowKit

set_option maxRecDepth 100000
set_option maxHeartbeats 4000000

theorem walk_repeat {w0 : World} {B R V lb lc kb kc eb ec : Nat} {cl : Int} {L : List Drl.Str} {K : List Nat} {E : List Int} {fs : Drl.RSt} {a0 : Int} {b : Nat} {v : Drl.Nums} {r : Except Drl.Err Drl.PSt} {k : Nat} (X : WCtx w0 B R V lb lc kb kc eb ec cl L K E fs b v k) (Q0 : Exit → Act → World → Prop) (c : Code) (hc : walkBody = some c) (u : Nat → Value) (wr : World) (m i : Nat) (hm : b - i ≤ m)
    (hrel : WRel w0 B R V lb lc kb kc eb ec cl L K E fs b v r k i wr) (hib : i < b) {k' : Nat} {l' : List Nat} {st' : Drl.PSt} {sv' : Value} (hk' : k' ≤ k) (hl' : Drl.Lst K E fs.ar i b l') (hrun : Drl.run fs.ar k' (.seq l' v) st' = some r) (hwa : WAt wr B R (.slice (some ⟨lb, 0, none⟩) L.length lc) (.slice (some ⟨kb, 0, none⟩) L.length kc) (.slice (some ⟨eb, 0, none⟩) L.length ec) cl sv' st') {t : Drl.Str} (ht : L[i]? = some t) {ki : Nat} (hki : K[i]? = some ki)
    (hk3 : ki = 3) {n e : Nat} {q : Except Drl.Err Drl.PSt} {l2 : List Nat} {k2 : Nat} (hk2 : k2 ≤ k) (he : E[i]? = some (e : Int)) (hie : i < e) (heb : e < b) (hl2 : Drl.Lst K E fs.ar (e + 1) b l2) (hbody : Drl.Lst K E fs.ar (i + 1) e (Drl.nd fs.ar n).body) (hat : (Drl.nd fs.ar n).at_ = i) (hrn : (match q with | .error e => some (.error e) | .ok st2 => Drl.run fs.ar k2 (.seq l2 v) st2) = some r)
    {cN : Int} (hcnt : Drl.rnum (Drl.wd (Drl.words (Drl.filled v t)) 1) = cN) (hc0 : 0 ≤ cN) (hc1 : cN ≤ 999999) (hws : 2 ≤ (Drl.words (Drl.filled v t)).length) (hlet : (Drl.nd fs.ar n).letter = 0)
    (hq : match Drl.turn (Drl.nd fs.ar n).at_ st' with
      | .error e => q = .error e
      | .ok st1 => ∃ k3, k3 < k ∧ Drl.run fs.ar k3 (.loop n (Drl.nd fs.ar n).body v 1 cN) st1 = some q) :
    c.wp Tryz.prog (Exit.then (fun a' w' => WI w0 B R V lb lc kb kc eb ec cl L K E fs a0 b v r k a' w' ∧ Wmu b a' w' < m) Q0) { tmps := #[.pointer (some ⟨R, 0, none⟩), .int .i64 (a0 : Int), .int .i64 (b : Nat), .agg (letCells v), undef, undef, undef, .pointer (some ⟨V, 0, none⟩), .int .i64 (i : Nat), u 9, u 10, u 11, u 12, u 13, u 14, u 15, u 16, u 17, u 18, u 19, u 20, u 21, u 22, u 23, u 24, u 25, u 26, u 27, u 28, u 29, u 30, u 31, u 32, u 33, u 34, u 35, u 36, u 37, u 38, u 39, u 40, u 41, u 42, u 43, u 44, u 45, u 46, u 47, u 48, u 49, u 50, u 51, u 52, u 53, u 54, u 55, u 56, u 57, u 58, u 59, u 60, u 61, u 62, u 63, u 64, u 65, u 66, u 67, u 68, u 69, u 70, u 71, u 72, u 73, u 74, u 75, u 76, u 77, u 78, u 79, u 80, u 81, u 82, u 83, u 84, u 85, u 86, u 87, u 88, u 89, u 90, u 91, u 92, u 93, u 94, u 95, u 96, u 97, u 98, u 99, u 100, u 101, u 102, u 103, u 104, u 105, u 106, u 107, u 108, u 109, u 110, u 111, u 112, u 113, u 114, u 115, u 116, u 117, u 118, u 119, u 120, u 121, u 122, u 123, u 124, u 125, u 126, u 127, u 128, u 129, u 130, u 131, u 132, u 133, u 134, u 135, u 136, u 137, u 138, u 139, u 140, u 141, u 142, u 143, u 144, u 145, u 146, u 147, u 148, u 149, u 150, u 151, u 152, u 153, u 154, u 155, u 156, u 157, u 158, u 159, u 160, u 161, u 162, u 163, u 164, u 165, u 166, u 167, u 168, u 169, u 170, u 171, u 172, u 173, u 174, u 175, u 176, u 177, u 178, u 179, u 180, u 181, u 182, u 183, u 184, u 185, u 186, u 187, u 188, u 189, u 190, u 191, u 192, u 193, u 194, u 195, u 196, u 197, u 198, u 199, u 200, u 201, u 202, u 203, u 204, u 205, u 206, u 207, u 208, u 209, u 210, u 211, u 212, u 213, u 214, u 215, u 216, u 217, u 218, u 219, u 220, u 221, u 222, u 223, u 224, u 225, u 226], defers := [] } wr := by
  have e := hc.symm.trans (rfl : walkBody = some _)
  obtain rfl := Option.some.inj e
  clear e hc
  have HX := Lib.hid X
  have hib' : (i : Int) < (b : Int) := by omega
  have hbL := X.hb
  have hn := X.fin.hn
  have hil : i < L.length := by omega
  have hil' : (i : Int) < (L.length : Int) := by omega
  obtain ⟨sl, hsl⟩ := exists_str t
  have HREL := Lib.hid hrel
  have d3 := hrel.sh.at_.1 i t ht
  rw [strV_eq hsl] at d3
  have hsz : sl.size ≤ 65536 := by
    have := X.fin.hL t (List.mem_of_getElem? ht)
    rw [← size_len, hsl]; exact this
  have hrg := let_range hrel.let_
  have hu := letters_under
  have hif : (Tryz.prog.info? 72).map (·.size) = some (letCells v).toList.length := by rw [Array.length_toList, letCells_size]; exact letters_info
  have c0 := hrel.sh.c0
  have c7 := hwa.cell7
  have HT := Lib.hid ht
  have HKI := Lib.hid hki
  have HSL := Lib.hid hsl
  have HLT := Lib.hid hrel.let_
  have HRU := Lib.hid hrun
  have HWA := Lib.hid hwa
  have HL1 := Lib.hid hl'
  have HM := Lib.hid hm
  have HHK := Lib.hid hk'
  clear X hrel hrun hwa hl' ht hki hsl hm hk'
  go_wp2_with fail
  go_region_held3 (fun w' => w'.rangeAt V 0 (letCells v).toList ∧ w'.cell? ⟨R, 0, none⟩ = some (.slice (some ⟨lb, 0, none⟩) L.length lc) ∧ w'.cell? ⟨lb, i, none⟩ = some (.string sl))
    (first
      | exact ⟨hrg, c0, d3⟩
      | exact ⟨let_range ((hb1.block _ HLT.out.lt).trans HLT.out), below_cell hb1 c0, below_cell hb1 d3⟩)
    ((first
      | (go_at_call 46; rw [Array.toArray_toList]; refine (rput_any v sl _ HX.out.hv HX.out.lo hsz).mono ?_; rintro e w1 ⟨rfl, hb1⟩)))
  have hbd : Below wr.heap.size wr w1 := (below_drew (Below.refl _ wr)).trans hb1
  have HW1 := Lib.hid (HWA.out.next hbd)
  have HS1 := Lib.hid (HREL.out.sh.next hbd)
  have hlt1 : LetAt w1 V v := (hbd.block _ HLT.out.lt).trans HLT.out
  have HLT1 := Lib.hid hlt1
  have HLF1 := Lib.hid (HREL.out.left.next HX.out.hB hbd)
  rw [HSL.out]
  have x1 := HS1.out.c1
  have x2 := HS1.out.c2
  have y1 := HS1.out.at_.2.1 i ki HKI.out
  have w1' : IntKind.i64.wrap ((i : Int) + 1) = (i : Int) + 1 := IntWalk.i64_in _ (by omega)
  clear hrg hu hif d3 c0 c7 hbd hb1 hlt1
  subst hk3
  have H3 := Lib.hid hl2
  have HRN := Lib.hid hrn
  have HQ := Lib.hid hq
  have HE := Lib.hid he
  have HBD := Lib.hid hbody
  have HAT := Lib.hid hat
  have HLE := Lib.hid hlet
  have HCN := Lib.hid hcnt
  have i1 : (1 : Int) < ((Drl.words (Drl.filled v t)).length : Int) := by omega
  have hfl := Drl.filled_len v HX.out.hv t.length t (Nat.le_refl _)
  have htz : t.length ≤ 65536 := HX.out.fin.hL t (List.mem_of_getElem? HT.out)
  clear hl2 hrn hq he hbody hat hlet hcnt
  go_wp2_with fail
  refine (rwords_any ⟨(Drl.filled v t).toArray⟩ w1 (by rw [size_of_list]; omega)).mono ?_
  rintro e1 w2 ⟨g, cap, rfl, hW, hb2⟩
  rw [toList_mk] at hW ⊢
  obtain ⟨s1, hs1, y5⟩ := hW.str 1 (by omega)
  have hz1 : s1.size ≤ 4294967296 := by
    rw [← size_len, hs1]
    have := words_size (Drl.filled v t) 1
    omega
  have HB2 := Lib.hid hb2
  have HW2 := Lib.hid hs1
  have HWA2 := Lib.hid (HW1.out.next hb2)
  have HS2 := Lib.hid (HS1.out.next hb2)
  have HLT2 := Lib.hid (show LetAt w2 V v from (hb2.block _ HLT1.out.lt).trans HLT1.out)
  have HL2 := Lib.hid ((Left.refl B R w1).next (by have := HW1.out.lt; have := HW1.out.base; omega) hb2)
  clear hW hb2 hs1 x1 x2 y1
  go_wp2_with fail
  refine (rnumber_any s1 w2 hz1).mono ?_
  rintro e2 w3 ⟨rfl, rfl⟩
  rw [HW2.out, HCN.out]
  go_wp2_with fail
  refine (rturn_ok w2 B R _ _ _ cl sv' st' HWA2.out i).mono ?_
  rintro e3 w4 ⟨⟨hL4, hp4⟩, rfl⟩
  have hq1 := HQ.out
  rw [HAT.out] at hq1
  have hin : ∃ okb k3, k3 < k ∧ Drl.okB (Drl.turn i st') = okb ∧ Inner w1 B R V lb lc kb kc eb ec cl L K E fs v q k3 n 1 cN okb w4 := by
    cases ht1 : Drl.turn i st' with
    | error y =>
      rw [ht1] at hp4 hq1
      refine ⟨false, 0, by have := HHK.out; cases k' with | zero => (have h := HRU.out; simp [Drl.run] at h) | succ _ => omega, rfl, ?_⟩
      exact ⟨HLT2.out.left hL4 HWA2.out.at_, HL2.out.trans hL4, HS2.out.leftErr hL4 HWA2.out.at_ hp4, .inr ⟨rfl, y, hq1, hp4⟩⟩
    | ok st1 =>
      rw [ht1] at hp4 hq1
      obtain ⟨sv4, hW4⟩ := hp4
      obtain ⟨k3, hk3, hrun3⟩ := hq1
      exact ⟨true, k3, hk3, rfl, ⟨HLT2.out.left hL4 HWA2.out.at_, HL2.out.trans hL4, HS2.out.left hL4 HWA2.out.at_ hW4.at_, .inl ⟨rfl, k3, st1, sv4, Nat.le_refl _, hrun3, hW4⟩⟩⟩
  obtain ⟨okb, k3, hk3, eok, hin⟩ := hin
  rw [eok]
  have HIN := Lib.hid hin
  clear hin hp4 hq1 hL4 eok y5
  obtain ⟨wo, rfl⟩ : ∃ wo : World, wo = wr := ⟨_, rfl⟩
  go_wp2_with fail
  go_loopw [15, 16] (fun okv kv wr => ∃ (z : Nat) (okb : Bool), kv = .int .i64 (z : Nat) ∧ okv = .bool okb ∧ (z : Int) ≤ cN ∧ Inner w1 B R V lb lc kb kc eb ec cl L K E fs v q k3 n ((z : Int) + 1) cN okb wr) (fun _ kv _ => (cN - intOf kv).toNat)
  case atStart => exact ⟨0, okb, rfl, rfl, hc0, HIN.out⟩
  case round =>
    obtain ⟨z, ob, rfl, rfl, hz, hin⟩ := hrel
    have HI := Lib.hid hin
    have v2 := hin.sh.c2
    have v3 := hin.sh.at_.2.2 i _ HE.out
    have wz : IntKind.i64.wrap ((z : Int) + 1) = (z : Int) + 1 := IntWalk.i64_in _ (by omega)
    have wei : IntKind.i64.wrap ((e : Int) + 1) = (e : Int) + 1 := IntWalk.i64_in _ (by omega)
    rcases hin.st with ⟨rfl, k4, st4, sv4, hk4, hrun4, hwa4⟩ | ⟨rfl, x, hx, hes⟩
    · by_cases hlt : (z : Int) < cN
      · have hst := (Drl.run_loop hrun4).2 (by omega)
        rw [HAT.out] at hst
        have HST := Lib.hid hst
        have HW4 := Lib.hid hwa4
        clear hin hrun4 hwa4 hst v2 v3
        go_wp2_with fail
        refine (rturn_ok wr B R _ _ _ cl sv4 st4 HW4.out i).mono ?_
        rintro e5 w5 ⟨⟨hL5, hp5⟩, rfl⟩
        have hst := HST.out
        cases ht5 : Drl.turn i st4 with
        | error y =>
          rw [ht5] at hp5 hst
          have HP5 := Lib.hid hp5
          have HL5 := Lib.hid hL5
          have HQ5 := Lib.hid hst
          clear hp5 hL5 hst ht5
          unfold Drl.okB
          go_wp2_with fail
          go_round
          case rel =>
            exact ⟨z + 1, false, by go_num, rfl, by omega, HI.out.let_.left HL5.out HW4.out.at_, HI.out.left.trans HL5.out, HI.out.sh.leftErr HL5.out HW4.out.at_ HP5.out, .inr ⟨rfl, y, HQ5.out, HP5.out⟩⟩
          case measure => simp only [intOf]; omega
        | ok st5 =>
          rw [ht5] at hp5 hst
          obtain ⟨sv5, hW5⟩ := hp5
          obtain ⟨k5, q5, hk5, hrun5, hq5⟩ := hst
          rw [HLE.out, if_neg (by decide)] at hrun5
          have hs5 := HI.out.sh.left hL5 HW4.out.at_ hW5.at_
          have hlt5 := HI.out.let_.left hL5 HW4.out.at_
          have HLT5 := Lib.hid hlt5
          have HW5 := Lib.hid (hW5.next (below_drew (Below.refl _ w5)))
          have HS5 := Lib.hid (hs5.next (below_drew (Below.refl _ w5)))
          have HL5 := Lib.hid ((HI.out.left.trans hL5).next (by have := HW1.out.lt; have := HW1.out.base; omega) (below_drew (Below.refl _ w5)))
          have HRN5 := Lib.hid hrun5
          have HQ5 := Lib.hid hq5
          have u2 : w5.cell? ⟨R, 2, none⟩ = some (.slice (some ⟨eb, 0, none⟩) L.length ec) := hs5.c2
          have u3 : w5.cell? ⟨eb, i, none⟩ = some (.int .i64 (e : Nat)) := hs5.at_.2.2 i _ HE.out
          have hrg := let_range hlt5
          have hu := letters_under
          have hif : (Tryz.prog.info? 72).map (·.size) = some (letCells v).toList.length := by rw [Array.length_toList, letCells_size]; exact letters_info
          clear hW5 hs5 hlt5 hrun5 hq5 hL5 ht5
          unfold Drl.okB
          cases q5 with
          | error y =>
            have HQE := Lib.hid (show q = .error y from HQ5.out)
            go_wp2_with fail
            go_region_held3 (fun w' => w'.rangeAt V 0 (letCells v).toList ∧ w'.cell? ⟨R, 2, none⟩ = some (.slice (some ⟨eb, 0, none⟩) L.length ec) ∧ w'.cell? ⟨eb, i, none⟩ = some (.int .i64 (e : Nat)))
              (first
                | exact ⟨hrg, u2, u3⟩
                | exact ⟨let_range hlt7, hs7.c2, hs7.at_.2.2 i _ HE.out⟩)
              ((first
                | (go_at_call 25; rw [Array.toArray_toList]; refine (HX.out.ih k5 (by omega) _ B R lb lc kb kc eb ec cl sv5 st5 L K E fs (i + 1) e (Drl.nd fs.ar n).body v (.error y) HS5.out HW5.out HX.out.fin HBD.out (by omega) HX.out.lo HX.out.hv HRN5.out).mono ?_; rintro e7 w7 ⟨⟨hL7, hp7⟩, rfl⟩; have hs7 := HS5.out.leftErr hL7 HW5.out.at_ hp7; have hlt7 : LetAt w7 V v := LetAt.left (w := w5.drew) HLT5.out hL7 HW5.out.at_)))
            have HP7 := Lib.hid hp7
            have HL7 := Lib.hid (HL5.out.trans hL7)
            have HS7 := Lib.hid hs7
            have HLT7 := Lib.hid hlt7
            have c7 := hp7.cell7
            have e7 : (((y.2 : Nat) : Int) == 0) = false := by have := hp7.1; simp; omega
            clear hp7 hL7 hs7 hlt7 hrg u2 u3
            go_wp2_with fail
            go_round
            case rel => exact ⟨z + 1, false, by go_num, rfl, by omega, HLT7.out, HL7.out, HS7.out, .inr ⟨rfl, y, HQE.out, HP7.out⟩⟩
            case measure => simp only [intOf]; omega
          | ok st7 =>
            have HQE := Lib.hid (show Drl.run fs.ar k5 (.loop n (Drl.nd fs.ar n).body v ((z : Int) + 1 + 1) cN) st7 = some q from HQ5.out)
            go_wp2_with fail
            go_region_held3 (fun w' => w'.rangeAt V 0 (letCells v).toList ∧ w'.cell? ⟨R, 2, none⟩ = some (.slice (some ⟨eb, 0, none⟩) L.length ec) ∧ w'.cell? ⟨eb, i, none⟩ = some (.int .i64 (e : Nat)))
              (first
                | exact ⟨hrg, u2, u3⟩
                | exact ⟨let_range hlt7, hs7.c2, hs7.at_.2.2 i _ HE.out⟩)
              ((first
                | (go_at_call 25; rw [Array.toArray_toList]; refine (HX.out.ih k5 (by omega) _ B R lb lc kb kc eb ec cl sv5 st5 L K E fs (i + 1) e (Drl.nd fs.ar n).body v (.ok st7) HS5.out HW5.out HX.out.fin HBD.out (by omega) HX.out.lo HX.out.hv HRN5.out).mono ?_; rintro e7 w7 ⟨⟨hL7, sv7, hp7⟩, rfl⟩; have hs7 := HS5.out.left hL7 HW5.out.at_ hp7.at_; have hlt7 : LetAt w7 V v := LetAt.left (w := w5.drew) HLT5.out hL7 HW5.out.at_)))
            have HP7 := Lib.hid hp7
            have HL7 := Lib.hid (HL5.out.trans hL7)
            have HS7 := Lib.hid hs7
            have HLT7 := Lib.hid hlt7
            have c7 := hp7.cell7
            clear hp7 hL7 hs7 hlt7 hrg u2 u3
            go_wp2_with fail
            go_round
            case rel => exact ⟨z + 1, true, by go_num, rfl, by omega, HLT7.out, HL7.out, HS7.out, .inl ⟨rfl, k5, st7, sv7, by omega, HQE.out, HP7.out⟩⟩
            case measure => simp only [intOf]; omega
      · have hq4 := (Drl.run_loop hrun4).1 (by omega)
        have hrn := HRN.out
        rw [hq4] at hrn
        have HRN4 := Lib.hid hrn
        have HW4 := Lib.hid hwa4
        clear hin hrun4 hwa4 hq4 hrn
        go_wp2_with fail
        exact WI.mk_ (i := e + 1) (by go_num) WFr.intro (WRel.toOk HLT1.out HLF1.out HS1.out HW1.out HI.out.left HW4.out (by omega) hk2 H3.out HRN4.out) (by have := HM.out; omega)
    · have hrn := HRN.out
      rw [hx] at hrn
      have HRN4 := Lib.hid (Option.some.inj hrn).symm
      have HES := Lib.hid hes
      clear hin hx hes hrn
      by_cases hlt : (z : Int) < cN
      · go_wp2_with fail
        exact WI.mk_ (i := e + 1) (by go_num) WFr.intro (WRel.toErr HLT1.out HLF1.out HS1.out HW1.out HI.out.left HES.out (by omega) HRN4.out) (by have := HM.out; omega)
      · go_wp2_with fail
        exact WI.mk_ (i := e + 1) (by go_num) WFr.intro (WRel.toErr HLT1.out HLF1.out HS1.out HW1.out HI.out.left HES.out (by omega) HRN4.out) (by have := HM.out; omega)
end Go.Proofs.YtfbmlnkgjgnnhaaGreatDoor
