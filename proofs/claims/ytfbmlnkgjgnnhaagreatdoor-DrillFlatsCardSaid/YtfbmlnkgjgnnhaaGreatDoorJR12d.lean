import Derived.Test.YtfbmlnkgjgnnhaaGreatDoorJR12
set_option linter.unusedSimpArgs false
set_option linter.unusedVariables false
namespace Go.Proofs.YtfbmlnkgjgnnhaaGreatDoor
open Go.RowKit

set_option maxRecDepth 100000
set_option maxHeartbeats 4000000

theorem walk_use {w0 : World} {B R V lb lc kb kc eb ec : Nat} {cl : Int} {L : List Drl.Str} {K : List Nat} {E : List Int} {fs : Drl.RSt} {a0 : Int} {b : Nat} {v : Drl.Nums} {r : Except Drl.Err Drl.PSt} {k : Nat} (X : WCtx w0 B R V lb lc kb kc eb ec cl L K E fs b v k) (Q0 : Exit → Act → World → Prop) (c : Code) (hc : walkBody = some c) (u : Nat → Value) (wr : World) (m i : Nat) (hm : b - i ≤ m)
    (hrel : WRel w0 B R V lb lc kb kc eb ec cl L K E fs b v r k i wr) (hib : i < b) {k' : Nat} {l' : List Nat} {st' : Drl.PSt} {sv' : Value} (hk' : k' ≤ k) (hl' : Drl.Lst K E fs.ar i b l') (hrun : Drl.run fs.ar k' (.seq l' v) st' = some r) (hwa : WAt wr B R (.slice (some ⟨lb, 0, none⟩) L.length lc) (.slice (some ⟨kb, 0, none⟩) L.length kc) (.slice (some ⟨eb, 0, none⟩) L.length ec) cl sv' st') {t : Drl.Str} (ht : L[i]? = some t) {ki : Nat} (hki : K[i]? = some ki)
    (hk6 : ki = 6) {n d e : Nat} {q : Except Drl.Err Drl.PSt} {l2 : List Nat} {k2 : Nat} (hk2 : k2 ≤ k) (hl2 : Drl.Lst K E fs.ar (i + 1) b l2) (hrn : (match q with | .error e => some (.error e) | .ok st2 => Drl.run fs.ar k2 (.seq l2 v) st2) = some r)
    (hws : 2 ≤ (Drl.words t).length) (hthere : ∀ rr, Drl.ThereIs L K E (Drl.wd (Drl.words t) 1) i rr → rr = ((Drl.nd fs.ar d).at_ : Int)) (hat : (Drl.nd fs.ar n).at_ = i) (hde : E[(Drl.nd fs.ar d).at_]? = some (e : Int)) (heL : e < L.length) (hdi : (Drl.nd fs.ar d).at_ < i) (hld : Drl.Lst K E fs.ar ((Drl.nd fs.ar d).at_ + 1) e (Drl.nd fs.ar d).body)
    (hdef : ∀ k (hk : k < K.length) (hke : k < E.length) (hkl : k < L.length), K[k] = 2 → 0 ≤ E[k] → 2 ≤ (Drl.words L[k]).length)
    (hq : match Drl.turn (Drl.nd fs.ar n).at_ st' with
      | .error e => q = .error e
      | .ok st1 => match Drl.turn (Drl.nd fs.ar n).at_ st1 with
        | .error e => q = .error e
        | .ok st2 => ∃ k3, k3 < k ∧ Drl.run fs.ar k3 (.seq (Drl.nd fs.ar d).body Drl.noNums) st2 = some q) :
    c.wp Tryz.prog (Exit.then (fun a' w' => WI w0 B R V lb lc kb kc eb ec cl L K E fs a0 b v r k a' w' ∧ Wmu b a' w' < m) Q0) { tmps := #[.pointer (some ⟨R, 0, none⟩), .int .i64 (a0 : Int), .int .i64 (b : Nat), .agg (letCells v), undef, undef, undef, .pointer (some ⟨V, 0, none⟩), .int .i64 (i : Nat), u 9, u 10, u 11, u 12, u 13, u 14, u 15, u 16, u 17, u 18, u 19, u 20, u 21, u 22, u 23, u 24, u 25, u 26, u 27, u 28, u 29, u 30, u 31, u 32, u 33, u 34, u 35, u 36, u 37, u 38, u 39, u 40, u 41, u 42, u 43, u 44, u 45, u 46, u 47, u 48, u 49, u 50, u 51, u 52, u 53, u 54, u 55, u 56, u 57, u 58, u 59, u 60, u 61, u 62, u 63, u 64, u 65, u 66, u 67, u 68, u 69, u 70, u 71, u 72, u 73, u 74, u 75, u 76, u 77, u 78, u 79, u 80, u 81, u 82, u 83, u 84, u 85, u 86, u 87, u 88, u 89, u 90, u 91, u 92, u 93, u 94, u 95, u 96, u 97, u 98, u 99, u 100, u 101, u 102, u 103, u 104, u 105, u 106, u 107, u 108, u 109, u 110, u 111, u 112, u 113, u 114, u 115, u 116, u 117, u 118, u 119, u 120, u 121, u 122, u 123, u 124, u 125, u 126, u 127, u 128, u 129, u 130, u 131, u 132, u 133, u 134, u 135, u 136, u 137, u 138, u 139, u 140, u 141, u 142, u 143, u 144, u 145, u 146, u 147, u 148, u 149, u 150, u 151, u 152, u 153, u 154, u 155, u 156, u 157, u 158, u 159, u 160, u 161, u 162, u 163, u 164, u 165, u 166, u 167, u 168, u 169, u 170, u 171, u 172, u 173, u 174, u 175, u 176, u 177, u 178, u 179, u 180, u 181, u 182, u 183, u 184, u 185, u 186, u 187, u 188, u 189, u 190, u 191, u 192, u 193, u 194, u 195, u 196, u 197, u 198, u 199, u 200, u 201, u 202, u 203, u 204, u 205, u 206, u 207, u 208, u 209, u 210, u 211, u 212, u 213, u 214, u 215, u 216, u 217, u 218, u 219, u 220, u 221, u 222, u 223, u 224, u 225, u 226], defers := [] } wr := by
  have e := hc.symm.trans (rfl : walkBody = some _)
  obtain rfl := Option.some.inj e
  clear e hc
  have HX := Lib.hid X
  have hib' : (i : Int) < (b : Int) := by omega
  have hbL := X.hb
  have hn := X.fin.hn
  have hil : i < L.length := by omega
  have hil' : (i : Int) < (L.length : Int) := by omega
  obtain ⟨sl, hsl⟩ := exists_str t
  have HREL := Lib.hid hrel
  have d3 := hrel.sh.at_.1 i t ht
  rw [strV_eq hsl] at d3
  have hsz : sl.size ≤ 65536 := by
    have := X.fin.hL t (List.mem_of_getElem? ht)
    rw [← size_len, hsl]; exact this
  have hrg := let_range hrel.let_
  have hu := letters_under
  have hif : (Tryz.prog.info? 72).map (·.size) = some (letCells v).toList.length := by rw [Array.length_toList, letCells_size]; exact letters_info
  have c0 := hrel.sh.c0
  have c7 := hwa.cell7
  have HT := Lib.hid ht
  have HKI := Lib.hid hki
  have HSL := Lib.hid hsl
  have HLT := Lib.hid hrel.let_
  have HRU := Lib.hid hrun
  have HWA := Lib.hid hwa
  have HL1 := Lib.hid hl'
  have HM := Lib.hid hm
  have HHK := Lib.hid hk'
  clear X hrel hrun hwa hl' ht hki hsl hm hk'
  go_wp2_with fail
  go_region_held3 (fun w' => w'.rangeAt V 0 (letCells v).toList ∧ w'.cell? ⟨R, 0, none⟩ = some (.slice (some ⟨lb, 0, none⟩) L.length lc) ∧ w'.cell? ⟨lb, i, none⟩ = some (.string sl))
    (first
      | exact ⟨hrg, c0, d3⟩
      | exact ⟨let_range ((hb1.block _ HLT.out.lt).trans HLT.out), below_cell hb1 c0, below_cell hb1 d3⟩)
    ((first
      | (go_at_call 46; rw [Array.toArray_toList]; refine (rput_any v sl _ HX.out.hv HX.out.lo hsz).mono ?_; rintro e w1 ⟨rfl, hb1⟩)))
  have hbd : Below wr.heap.size wr w1 := (below_drew (Below.refl _ wr)).trans hb1
  have HW1 := Lib.hid (HWA.out.next hbd)
  have HS1 := Lib.hid (HREL.out.sh.next hbd)
  have hlt1 : LetAt w1 V v := (hbd.block _ HLT.out.lt).trans HLT.out
  have HLT1 := Lib.hid hlt1
  have HLF1 := Lib.hid (HREL.out.left.next HX.out.hB hbd)
  rw [HSL.out]
  have x1 := HS1.out.c1
  have x2 := HS1.out.c2
  have y1 := HS1.out.at_.2.1 i ki HKI.out
  have w1' : IntKind.i64.wrap ((i : Int) + 1) = (i : Int) + 1 := IntWalk.i64_in _ (by omega)
  clear hrg hu hif d3 c0 c7 hbd hb1 hlt1
  subst hk6
  have H3 := Lib.hid hl2
  have HRN := Lib.hid hrn
  have HTH := Lib.hid hthere
  have HQ := Lib.hid hq
  have HDE := Lib.hid hde
  have HLD := Lib.hid hld
  have HAT := Lib.hid hat
  have HDF := Lib.hid hdef
  have z3 := HS1.out.at_.1 i t HT.out
  rw [strV_eq HSL.out] at z3
  generalize hdd : (Drl.nd fs.ar d).at_ = da at *
  have HDD := Lib.hid hdd
  have i1 : (1 : Int) < ((Drl.words t).length : Int) := by omega
  clear hl2 hrn hthere hq hde hld hat hdef hdd
  go_wp2_with fail
  refine (rwords_any sl w1 (by omega)).mono ?_
  rintro e1 w2 ⟨g, cap, rfl, hW, hb2⟩
  rw [HSL.out] at hW ⊢
  obtain ⟨s1, hs1, y5⟩ := hW.str 1 (by omega)
  have HS2 := Lib.hid (HS1.out.next hb2)
  have HB2 := Lib.hid hb2
  have HW2 := Lib.hid hs1
  clear hW hb2 hs1 y1 z3
  go_wp2_with fail
  refine (rthere_any w2 R _ _ _ L K E HS2.out s1 i (by omega) (by omega) HX.out.fin.hL HDF.out).mono ?_
  rintro e2 w3 ⟨rr, rfl, hrr, hb3⟩
  rw [HW2.out] at hrr
  have hrr2 := HTH.out rr hrr
  subst hrr2
  have hb13 : Below w1.heap.size w1 w3 := HB2.out.trans (hb3.mono HB2.out.size)
  have HB13 := Lib.hid hb13
  have HW3 := Lib.hid (HW1.out.next hb13)
  have HS3 := Lib.hid (HS1.out.next hb13)
  have HL3 := Lib.hid ((Left.refl B R w1).next (by have := HW1.out.lt; have := HW1.out.base; omega) hb13)
  clear hb13 hb3 hrr x1 x2 y5
  go_wp2_with fail
  refine (rturn_ok w3 B R _ _ _ cl sv' st' HW3.out i).mono ?_
  rintro e3 w4 ⟨⟨hL4, hp4⟩, rfl⟩
  have hq1 := HQ.out
  rw [HAT.out] at hq1
  cases ht1 : Drl.turn i st' with
  | error y =>
    rw [ht1] at hp4 hq1
    have HP := Lib.hid hp4
    have HL4 := Lib.hid (HL3.out.trans hL4)
    have hrn := HRN.out
    rw [hq1] at hrn
    have HRN2 := Lib.hid (Option.some.inj hrn).symm
    clear hp4 hq1 ht1 hL4 hrn
    unfold Drl.okB
    go_wp2_with fail
    exact WI.mk_ (i := i + 1) (by go_num) WFr.intro (WRel.toErr HLT1.out HLF1.out HS1.out HW1.out HL4.out HP.out (by omega) HRN2.out) (by have := HM.out; omega)
  | ok st1 =>
    rw [ht1] at hp4 hq1
    obtain ⟨sv4, hW4⟩ := hp4
    have HW4 := Lib.hid hW4
    have HL4 := Lib.hid (HL3.out.trans hL4)
    have HS4 := Lib.hid (HS3.out.left hL4 HW3.out.at_ hW4.at_)
    have HQ1 := Lib.hid hq1
    clear hW4 hq1 ht1 hL4
    unfold Drl.okB
    go_wp2_with fail
    refine (rturn_ok w4 B R _ _ _ cl sv4 st1 HW4.out i).mono ?_
    rintro e5 w5 ⟨⟨hL5, hp5⟩, rfl⟩
    have hq2 := HQ1.out
    cases ht2 : Drl.turn i st1 with
    | error y =>
      rw [ht2] at hq2
      rw [ht2] at hp5
      have HP := Lib.hid hp5
      have HL5 := Lib.hid (HL4.out.trans hL5)
      have hrn := HRN.out
      rw [hq2] at hrn
      have HRN2 := Lib.hid (Option.some.inj hrn).symm
      clear hp5 hq2 ht2 hL5 hrn
      unfold Drl.okB
      go_wp2_with fail
      exact WI.mk_ (i := i + 1) (by go_num) WFr.intro (WRel.toErr HLT1.out HLF1.out HS1.out HW1.out HL5.out HP.out (by omega) HRN2.out) (by have := HM.out; omega)
    | ok st2 =>
      rw [ht2] at hq2
      rw [ht2] at hp5
      obtain ⟨sv5, hW5⟩ := hp5
      obtain ⟨k3, hk3, hrun3⟩ := hq2
      have HW5 := Lib.hid (hW5.next (below_drew (Below.refl _ w5)))
      have hs5 := HS4.out.left hL5 HW4.out.at_ hW5.at_
      have HS5 := Lib.hid (hs5.next (below_drew (Below.refl _ w5)))
      have HL5 := Lib.hid ((HL4.out.trans hL5).next (by have := HW1.out.lt; have := HW1.out.base; omega) (below_drew (Below.refl _ w5)))
      have v2 : w5.cell? ⟨R, 2, none⟩ = some (.slice (some ⟨eb, 0, none⟩) L.length ec) := hs5.c2
      have v3 : w5.cell? ⟨eb, da, none⟩ = some (.int .i64 (e : Nat)) := hs5.at_.2.2 da _ HDE.out
      have hdaL : (da : Int) < (L.length : Int) := by omega
      have w3' : IntKind.i64.wrap ((da : Int) + 1) = (da : Int) + 1 := IntWalk.i64_in _ (by omega)
      have HRN3 := Lib.hid hrun3
      clear hW5 hs5 hL5 ht2 hrun3
      unfold Drl.okB
      cases q with
      | error y =>
        have HRN2 := Lib.hid (Option.some.inj HRN.out).symm
        go_wp2_with fail
        go_region_held3 (fun w' => w'.cell? ⟨R, 2, none⟩ = some (.slice (some ⟨eb, 0, none⟩) L.length ec) ∧ w'.cell? ⟨eb, da, none⟩ = some (.int .i64 (e : Nat)))
          (first
            | exact ⟨v2, v3⟩
            | exact ⟨hs7.c2, hs7.at_.2.2 da _ HDE.out⟩
            | exact ⟨below_cell hb6 v2, below_cell hb6 v3⟩)
          ((first
            | (go_at_call 26; refine (rnone_any _).mono ?_; rintro e6 w6 ⟨rfl, hb6⟩; have hw6 := HW5.out.next hb6; have hs6 := HS5.out.next hb6; have hl6 := HL5.out.next (by have := HW1.out.lt; have := HW1.out.base; omega) hb6)
            | (go_at_call 25; refine (HX.out.ih k3 hk3 w6 B R lb lc kb kc eb ec cl sv5 st2 L K E fs (da + 1) e (Drl.nd fs.ar d).body Drl.noNums (.error y) hs6 hw6 HX.out.fin HLD.out (by omega) (fun _ _ => by unfold Drl.noNums; omega) Drl.noNums_le HRN3.out).mono ?_; rintro e7 w7 ⟨⟨hL7, hp7⟩, rfl⟩; have hs7 := hs6.leftErr hL7 hw6.at_ hp7; have hl7 := hl6.trans hL7)))
        have HP7 := Lib.hid hp7
        have HL7 := Lib.hid hl7
        clear hp7 hl7 hL7 hs7 hs6 hw6 hl6
        go_wp2_with fail
        exact WI.mk_ (i := i + 1) (by go_num) WFr.intro (WRel.toErr HLT1.out HLF1.out HS1.out HW1.out HL7.out HP7.out (by omega) HRN2.out) (by have := HM.out; omega)
      | ok stq =>
        go_wp2_with fail
        go_region_held3 (fun w' => w'.cell? ⟨R, 2, none⟩ = some (.slice (some ⟨eb, 0, none⟩) L.length ec) ∧ w'.cell? ⟨eb, da, none⟩ = some (.int .i64 (e : Nat)))
          (first
            | exact ⟨v2, v3⟩
            | exact ⟨hs7.c2, hs7.at_.2.2 da _ HDE.out⟩
            | exact ⟨below_cell hb6 v2, below_cell hb6 v3⟩)
          ((first
            | (go_at_call 26; refine (rnone_any _).mono ?_; rintro e6 w6 ⟨rfl, hb6⟩; have hw6 := HW5.out.next hb6; have hs6 := HS5.out.next hb6; have hl6 := HL5.out.next (by have := HW1.out.lt; have := HW1.out.base; omega) hb6)
            | (go_at_call 25; refine (HX.out.ih k3 hk3 w6 B R lb lc kb kc eb ec cl sv5 st2 L K E fs (da + 1) e (Drl.nd fs.ar d).body Drl.noNums (.ok stq) hs6 hw6 HX.out.fin HLD.out (by omega) (fun _ _ => by unfold Drl.noNums; omega) Drl.noNums_le HRN3.out).mono ?_; rintro e7 w7 ⟨⟨hL7, sv7, hp7⟩, rfl⟩; have hs7 := hs6.left hL7 hw6.at_ hp7.at_; have hl7 := hl6.trans hL7)))
        have HP7 := Lib.hid hp7
        have HL7 := Lib.hid hl7
        clear hp7 hl7 hL7 hs7 hs6 hw6 hl6
        go_wp2_with fail
        exact WI.mk_ (i := i + 1) (by go_num) WFr.intro (WRel.toOk HLT1.out HLF1.out HS1.out HW1.out HL7.out HP7.out (by omega) hk2 H3.out HRN.out) (by have := HM.out; omega)
end Go.Proofs.YtfbmlnkgjgnnhaaGreatDoor
