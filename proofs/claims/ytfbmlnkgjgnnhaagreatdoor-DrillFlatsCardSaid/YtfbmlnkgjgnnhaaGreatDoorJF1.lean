import Derived.Test.YtfbmlnkgjgnnhaaGreatDoorJA27
import Derived.Test.YtfbmlnkgjgnnhaaGreatDoorJP10
set_option linter.unusedSimpArgs false
set_option linter.unusedVariables false
namespace Go.Proofs.YtfbmlnkgjgnnhaaGreatDoor
open Go.RowKit

set_option maxRecDepth 100000
set_option maxHeartbeats 4000000

/-- what Flat leaves -/
def FlatPost (w : World) (r : Except Drl.Err (List Drl.Dr × Nat)) (e : Ending) (w' : World) : Prop :=
  Below w.heap.size w w' ∧ match r with
    | .error x => ∃ v, e = .returned (.tuple #[.string ⟨#[]⟩, v]) ∧ ErrAt w' v x.1 x.2
    | .ok a => e = .returned (.tuple #[.string ⟨(Drl.flatText a.1 a.2).toArray⟩, .nilIface])

theorem flat_err (k : Nat) (s : ByteArray) (w : World) (hE : Env w) (x : Drl.Err) (hr : Drl.unroll k s.data.toList = some (.error x)) : Calls Tryz.prog 16 #[.string s] w (FlatPost w (.error x)) := by
  have HE := Lib.hid hE
  have HR := Lib.hid hr
  clear hE hr
  go_enter Tryz.func16, Tryz.ntmps16
  go_wp2_with fail
  refine (unroll_ok k s w HE.out _ HR.out).mono ?_
  rintro e w1 ⟨hb, v, rfl, b, rfl, hb1⟩
  have HB := Lib.hid hb
  have HB1 := Lib.hid hb1
  clear hb hb1
  go_wp2_with fail
  go_ret2
  exact ⟨HB.out, _, rfl, b, rfl, HB1.out⟩

theorem bs_head (n : Nat) : ((⟨(Drl.wClients ++ 32 :: Lib.decDigits n).toArray⟩ : ByteArray) ++ ⟨#[10]⟩) = ⟨(Drl.flatHead n).toArray⟩ := by
  apply ByteArray.ext
  simp [Drl.flatHead]

theorem flat_fine (k : Nat) (s : ByteArray) (w : World) (hE : Env w) (l : List Drl.Dr) (n : Nat) (hr : Drl.unroll k s.data.toList = some (.ok (l, n))) : Calls Tryz.prog 16 #[.string s] w (FlatPost w (.ok (l, n))) := by
  have hbd := Drl.bounds hr
  simp only [Drl.Bounds] at hbd
  obtain ⟨h1, h2, h3, h4, h5, _⟩ := hbd
  have HX := Lib.hid (fun x hx => (h5 x hx).len)
  have HE := Lib.hid hE
  have HR := Lib.hid hr
  have hhl := Drl.flatHead_len n h3
  have hdl := Drl.decDigits_len 1 n (by omega)
  clear hE hr h4 h5
  go_enter Tryz.func16, Tryz.ntmps16
  go_wp2_with fail
  refine (unroll_ok k s w HE.out _ HR.out).mono ?_
  rintro e w2 ⟨hb, sv, rfl, hown⟩
  have HB := Lib.hid hb
  have HE2 := Lib.hid (HE.out.next hb)
  obtain ⟨ao, cap, rfl, hcells⟩ : ∃ ao cap, sv = .slice ao l.length cap ∧ (l ≠ [] → ∃ g, ao = some ⟨g, 0, none⟩ ∧ l.length ≤ cap ∧ StepsIn w2 g l ∧ g < w2.heap.size) := by
    rcases StepsOwn.at_ hown with ⟨rfl, rfl⟩ | ⟨g, cap, rfl, q1, q3, _, q2⟩
    · exact ⟨none, 0, rfl, fun h => absurd rfl h⟩
    · exact ⟨some ⟨g, 0, none⟩, cap, rfl, fun _ => ⟨g, rfl, q1, q2, q3⟩⟩
  have HC := Lib.hid hcells
  have hI0 : Lib.IsBuilderF 83 5 w2.heap.size w2.heap.size [] (w2.alloc (.cells #[.pointer none, .slice none 0 0] 83)) := Lib.IsBuilderF.of (Lib.fresh_isBuilder 83 5 w2)
  have HI0 := Lib.hid hI0
  have HBA := Lib.hid ((Below.refl w2.heap.size w2).alloc (Nat.le_refl _) (.cells #[.pointer none, .slice none 0 0] 83))
  have HEA := Lib.hid (HE2.out.next HBA.out)
  clear hb hown hcells hI0
  go_wp2_with fail
  refine (first_ok (n : Int) (by omega) (by omega) _ HEA.out).mono ?_
  rintro e w3 ⟨rfl, hb3⟩
  rw [show ((n : Int)).toNat = n from Int.toNat_natCast n]
  have hI3 := isBuilderF_keep HI0.out hb3.block
  have HI3 := Lib.hid hI3
  have hz3 : w2.heap.size ≤ w3.heap.size := Nat.le_trans HBA.out.size hb3.size
  have HB3 := Lib.hid (HBA.out.trans (hb3.mono HBA.out.size))
  have hbs := bs_head n
  have hdz : (⟨(Drl.wClients ++ 32 :: Lib.decDigits n).toArray⟩ : ByteArray).size ≤ 20 := by rw [size_of_list]; simp [Drl.wClients]; omega
  generalize (⟨(Drl.wClients ++ 32 :: Lib.decDigits n).toArray⟩ : ByteArray) = hd at hbs hdz ⊢
  have HBS := Lib.hid hbs
  clear hb3 hI3 hbs
  go_wp2_with fail
  rw [HBS.out]
  refine (WriteString_k w2.heap.size w2.heap.size [] _ w3 HI3.out (by rw [size_of_list]; simp; omega) hz3).mono ?_
  rintro e w4 ⟨rfl, h4, b4, _⟩
  have HI4 := Lib.hid h4
  have HB4 := Lib.hid (HB3.out.trans b4)
  clear h4 b4
  go_wp2_with fail
  go_loopw [25] (fun iv wr => ∃ (m : Nat), m ≤ l.length ∧ iv = .int .i64 m ∧ Lib.IsBuilderF 83 5 w2.heap.size w2.heap.size (Lib.byteCells (Drl.flatHead n ++ Drl.flatAll (l.take m))) wr ∧ Below w2.heap.size w2 wr) (fun iv _ => l.length - (intOf iv).toNat)
  case atStart => exact ⟨0, Nat.zero_le _, rfl, by have h : Lib.IsBuilderF 83 5 w2.heap.size w2.heap.size _ w4 := Or.inr HI4.out; simpa [Drl.flatAll, Lib.byteCells, Lib.strCells] using h, HB4.out⟩
  case round =>
    obtain ⟨m, hm, rfl, hI, hb⟩ := hrel
    have HI := Lib.hid hI
    have HBW := Lib.hid hb
    have hzr : w2.heap.size ≤ wr.heap.size := hb.size
    clear hI hb
    by_cases hml : m < l.length
    · obtain ⟨g, rfl, hcap, hin, hg⟩ := HC.out (by rintro rfl; simp at hml)
      obtain ⟨x, hxm⟩ : ∃ x, l[m]? = some x := ⟨l[m], List.getElem?_eq_getElem hml⟩
      have d := hin m x hxm
      have hbc : ∀ {a : Addr} {u : Value}, w2.cell? a = some u → wr.cell? a = some u := fun h => below_cell HBW.out h
      have c0 := hbc d.c0
      have c1 := hbc d.c1
      have c2 := hbc d.c2
      have hxl := HX.out x (List.mem_of_getElem? hxm)
      have hal : (Drl.flatHead n ++ Drl.flatAll (l.take m)).length ≤ 16 + 393300 * m := by
        have := Drl.flatAll_len (l.take m) (fun y hy => HX.out y (List.mem_of_mem_take hy))
        rw [List.length_append]
        have hlt : (l.take m).length ≤ m := List.length_take_le _ _
        have := Nat.mul_le_mul_left 393300 hlt
        omega
      have htk := Drl.flatAll_take hxm
      obtain ⟨t, ht⟩ : ∃ t : ByteArray, t = ⟨x.text.toArray⟩ := ⟨_, rfl⟩
      have htv : strV x.text = .string t := by rw [ht]; rfl
      have htl : t.data.toList = x.text := by rw [ht]
      have htz : t.size = x.text.length := by rw [← htl, size_len]
      rw [htv] at c1
      have HTK := Lib.hid htk
      have HTL := Lib.hid htl
      have hl3 : (m : Int) < (l.length : Int) := by omega
      clear d hin hbc htk ht htv htl hxm
      cases hw : x.want with
      | false =>
        rw [hw] at c2
        have HW := Lib.hid hw
        clear hw
        have HIA := Lib.hid (isBuilderF_keep HI.out (((Below.refl wr.heap.size wr).alloc (Nat.le_refl _) (.cells #[.int .i64 x.line, .string t, .bool false] 37)).block))
        have hza : w2.heap.size ≤ (wr.alloc (.cells #[.int .i64 x.line, .string t, .bool false] 37)).heap.size := by rw [size_alloc]; omega
        have HBW2 := Lib.hid (HBW.out.alloc hzr (.cells #[.int .i64 x.line, .string t, .bool false] 37))
        go_wp2_with fail
        refine (WriteString_k w2.heap.size w2.heap.size _ _ _ HIA.out (by rw [Lib.byteCells_length]; omega) hza).mono ?_
        rintro e w5 ⟨rfl, h5, b5, _⟩
        have HI5 := Lib.hid h5
        have hz5 : w2.heap.size ≤ w5.heap.size := Nat.le_trans hza b5.size
        have HB5 := Lib.hid (HBW2.out.trans b5)
        clear h5 b5
        go_wp2_with fail
        refine (WriteByte_k w2.heap.size w2.heap.size _ 10 w5 (Or.inr HI5.out) (by rw [List.length_append, Lib.byteCells_length, Lib.strCells_length]; omega) hz5).mono ?_
        rintro e w6 ⟨rfl, h6, b6, _⟩
        have HI6 := Lib.hid h6
        have HB6 := Lib.hid (HB5.out.trans b6)
        clear h6 b6
        go_wp2_with fail
        go_roundw
        case rel =>
          refine ⟨m + 1, by omega, by go_num, ?_, HB6.out⟩
          rw [HTK.out]
          have hi : Lib.IsBuilderF 83 5 w2.heap.size w2.heap.size _ w6 := Or.inr HI6.out
          have hl : Drl.flatLine x = t.data.toList ++ [10] := by unfold Drl.flatLine; rw [if_pos HW.out, HTL.out]
          rw [hl]
          simpa [Lib.byteCells, Lib.strCells, HTL.out] using hi
        case measure => simp [intOf]; omega
      | true =>
        rw [hw] at c2
        have HW := Lib.hid hw
        clear hw
        by_cases h0 : t.size = 0
        · have e0 : t.toList.isEmpty = true := by rw [toList_nil h0]; rfl
          have HX0 := Lib.hid (show x.text = [] by rw [← HTL.out]; exact List.eq_nil_of_length_eq_zero (by rw [size_len]; exact h0))
          have HIA := Lib.hid (isBuilderF_keep HI.out (((Below.refl wr.heap.size wr).alloc (Nat.le_refl _) (.cells #[.int .i64 x.line, .string t, .bool true] 37)).block))
          have hza : w2.heap.size ≤ (wr.alloc (.cells #[.int .i64 x.line, .string t, .bool true] 37)).heap.size := by rw [size_alloc]; omega
          have HBW2 := Lib.hid (HBW.out.alloc hzr (.cells #[.int .i64 x.line, .string t, .bool true] 37))
          go_wp2_with fail
          refine (WriteString_k w2.heap.size w2.heap.size _ _ _ HIA.out (by rw [Lib.byteCells_length]; simp only [show (⟨#[101, 120, 112, 101, 99, 116]⟩ : ByteArray).size = 6 from rfl]; omega) hza).mono ?_
          rintro e w5 ⟨rfl, h5, b5, _⟩
          have HI5 := Lib.hid h5
          have hz5 : w2.heap.size ≤ w5.heap.size := Nat.le_trans hza b5.size
          have HB5 := Lib.hid (HBW2.out.trans b5)
          clear h5 b5
          go_wp2_with fail
          refine (WriteByte_k w2.heap.size w2.heap.size _ 10 w5 (Or.inr HI5.out) (by rw [List.length_append, Lib.byteCells_length, Lib.strCells_length]; simp only [show (⟨#[101, 120, 112, 101, 99, 116]⟩ : ByteArray).size = 6 from rfl]; omega) hz5).mono ?_
          rintro e w6 ⟨rfl, h6, b6, _⟩
          have HI6 := Lib.hid h6
          have HB6 := Lib.hid (HB5.out.trans b6)
          clear h6 b6
          go_wp2_with fail
          go_roundw
          case rel =>
            refine ⟨m + 1, by omega, by go_num, ?_, HB6.out⟩
            rw [HTK.out]
            have hi : Lib.IsBuilderF 83 5 w2.heap.size w2.heap.size _ w6 := Or.inr HI6.out
            have hl : Drl.flatLine x = [101, 120, 112, 101, 99, 116] ++ [10] := by unfold Drl.flatLine; rw [if_neg (by rw [HW.out]; decide), if_pos HX0.out]; rfl
            rw [hl]
            simpa [Lib.byteCells, Lib.strCells, HTL.out] using hi
          case measure => simp [intOf]; omega
        · have e0 : t.toList.isEmpty = false := by have := toList_some (s := t) (by omega); simpa using this
          have HSZ := Lib.hid (show ((⟨#[101, 120, 112, 101, 99, 116, 32]⟩ : ByteArray) ++ t).size = 7 + t.size by rw [ByteArray.size_append]; rfl)
          have HX0 := Lib.hid (show x.text ≠ [] by rw [← HTL.out]; intro h; apply h0; rw [← size_len t, h]; rfl)
          have HIA := Lib.hid (isBuilderF_keep HI.out (((Below.refl wr.heap.size wr).alloc (Nat.le_refl _) (.cells #[.int .i64 x.line, .string t, .bool true] 37)).block))
          have hza : w2.heap.size ≤ (wr.alloc (.cells #[.int .i64 x.line, .string t, .bool true] 37)).heap.size := by rw [size_alloc]; omega
          have HBW2 := Lib.hid (HBW.out.alloc hzr (.cells #[.int .i64 x.line, .string t, .bool true] 37))
          go_wp2_with fail
          refine (WriteString_k w2.heap.size w2.heap.size _ _ _ HIA.out (by rw [Lib.byteCells_length]; rw [HSZ.out]; omega) hza).mono ?_
          rintro e w5 ⟨rfl, h5, b5, _⟩
          have HI5 := Lib.hid h5
          have hz5 : w2.heap.size ≤ w5.heap.size := Nat.le_trans hza b5.size
          have HB5 := Lib.hid (HBW2.out.trans b5)
          clear h5 b5
          go_wp2_with fail
          refine (WriteByte_k w2.heap.size w2.heap.size _ 10 w5 (Or.inr HI5.out) (by rw [List.length_append, Lib.byteCells_length, Lib.strCells_length]; rw [HSZ.out]; omega) hz5).mono ?_
          rintro e w6 ⟨rfl, h6, b6, _⟩
          have HI6 := Lib.hid h6
          have HB6 := Lib.hid (HB5.out.trans b6)
          clear h6 b6
          go_wp2_with fail
          go_roundw
          case rel =>
            refine ⟨m + 1, by omega, by go_num, ?_, HB6.out⟩
            rw [HTK.out]
            have hi : Lib.IsBuilderF 83 5 w2.heap.size w2.heap.size _ w6 := Or.inr HI6.out
            have hl : Drl.flatLine x = [101, 120, 112, 101, 99, 116, 32] ++ t.data.toList ++ [10] := by unfold Drl.flatLine; rw [if_neg (by rw [HW.out]; decide), if_neg HX0.out, HTL.out]; rfl
            rw [hl]
            simpa [Lib.byteCells, Lib.strCells, HTL.out] using hi
          case measure => simp [intOf]; omega
    · go_wp2_with (go_at_call 31; refine (Tryz.Builder_String_any_k w2.heap.size w2.heap.size (Drl.flatHead n ++ Drl.flatAll (l.take m)) _ HI.out hzr).mono ?_)
      rintro e w9 ⟨rfl, _, b9, _⟩
      have HB9 := Lib.hid (HB.out.trans ((HBW.out.trans b9).mono HB.out.size))
      clear b9
      go_wp2_with fail
      go_ret2
      refine ⟨HB9.out, ?_⟩
      rw [List.take_of_length_le (by omega)]
      rfl
end Go.Proofs.YtfbmlnkgjgnnhaaGreatDoor
