import Derived.Test.YtfbmlnkgjgnnhaaGreatDoorJR5
import Derived.Lib.AppendStr
import Derived.Laws.BytesString
set_option linter.unusedSimpArgs false
set_option linter.unusedVariables false
namespace Go.Proofs.YtfbmlnkgjgnnhaaGreatDoor
open Go.RowKit


theorem one_byte (s : ByteArray) (k : Nat) (h : k < s.size) : (s.extract k (k + 1)).data.toList = [s[k]'h] := by
  rw [extract_list s k (k + 1) (by omega), List.take_add_one, List.getElem?_eq_getElem (by rw [size_len]; exact h), get_list s k h]
  rw [List.drop_append_of_le_length (by rw [List.length_take, size_len]; omega), List.drop_eq_nil_of_le (by rw [List.length_take]; omega)]
  rfl
theorem rlet_one (s : ByteArray) (k : Nat) (h : k < s.size) : Drl.rlet (s.extract k (k + 1)).data.toList = if Drl.isLet (s[k]'h) then ((s[k]'h).toNat : Int) - 97 else -1 := by
  rw [one_byte s k h]; rfl
theorem isLet_iff (c : UInt8) : Drl.isLet c = true ↔ 97 ≤ c.toNat ∧ c.toNat ≤ 122 := by simp [Drl.isLet]
theorem info_byte0 : (Tryz.prog.info? 5).map (fun i => (i.zero, i.size, i.bytes)) = some (some (.int .u8 0), 1, 1) := by kernel_rfl

theorem conv_nil {P : Program} (w : World) (src dst e : TypeId) (c : Nat) (hs : P.underlying src = some (.slice e)) (he : P.underlying e = some (.int .u8)) (hd : P.underlying dst = some .string) :
    (convert src dst (.slice none 0 c)).run P w = .ok (.string ⟨#[]⟩) w := by
  rw [run_convert_bytes_string w src dst e none 0 c hs he hd]
  simp [Conv.bytesToString]
  rfl

set_option maxRecDepth 100000 in
set_option maxHeartbeats 4000000 in
theorem rput_any (v : Drl.Nums) (s : ByteArray) (w : World) (hv : ∀ c, v c ≤ 999999) (hl : Drl.LetOnly v) (hs : s.size ≤ 65536) :
    Calls Tryz.prog 46 #[.agg (letCells v), .string s] w fun e w' => e = .returned (.string ⟨(Drl.filled v s.data.toList).toArray⟩) ∧ Below w.heap.size w w' := by
  obtain ⟨i0, hi, hz0, hz1, hz2⟩ := info_parts info_byte0
  have hconv : ∀ (W : World) (ao : Option Addr) (cv : Nat) (acc : List UInt8), W.ownsRow w.heap.size 5 1 (.slice ao acc.length cv) acc.length (Lib.byteCells acc) → (convert 80 9 (.slice ao acc.length cv)).run Tryz.prog W = .ok (.string ⟨acc.toArray⟩) W := by
    intro W ao cv acc hown
    rcases hown.2 with ⟨hv, h0⟩ | ⟨g, cap, cur, hv, _⟩
    · have : acc = [] := List.eq_nil_of_length_eq_zero h0
      subst this
      injection hv with h1 h2 h3
      subst h1 h3
      exact conv_nil W 80 9 5 0 Tryz.underlying80 Tryz.underlying5 Tryz.underlying9
    · injection hv with h1 h2 h3
      subst h1
      exact run_convert_bytes_back (P := Tryz.prog) W 80 9 5 ⟨g, 0, none⟩ cv acc Tryz.underlying80 Tryz.underlying5 Tryz.underlying9 (fun j hj => hown.cells (g := g) rfl j _ (by simp [Lib.byteCells, hj]))
  go_enter Tryz.func46, Tryz.ntmps46
  go_wp2_with fail
  go_loopw [5, 6] (fun o i wr => ∃ (k : Nat) (acc : List UInt8) (ao : Option Addr) (cv : Nat), k ≤ s.size ∧ i = .int .i64 k ∧ o = .slice ao acc.length cv ∧ wr.ownsRow w.heap.size 5 1 o acc.length (Lib.byteCells acc) ∧ LetAt wr w.heap.size v ∧ Below w.heap.size w wr ∧ acc ++ Drl.filled v (s.data.toList.drop k) = Drl.filled v s.data.toList ∧ acc.length ≤ 6 * k) (fun _ i _ => s.size - (intOf i).toNat)
  case atStart =>
    exact ⟨0, [], none, 0, by omega, rfl, rfl, World.ownsRow_nil _ _ _ _, heap_new _ _, (Below.refl _ w).alloc (Nat.le_refl _) _, by simp, by simp⟩
  case round =>
    obtain ⟨k, acc, ao, cv, hk, rfl, rfl, hown, hL, hb, hacc, hal⟩ := hrel
    have HA := Lib.hid hacc
    have HV := Lib.hid hv
    have HL := Lib.hid hL
    have HO := Lib.hid hown
    have HLO := Lib.hid hl
    have hsz := hb.size
    have hLlt := hL.lt
    clear hacc hv hL hown hl
    by_cases hlt : k < s.size
    · have w1 : IntKind.i64.wrap ((k : Int) + 1) = (k : Int) + 1 := IntWalk.i64_in _ (by omega)
      have w2 : IntKind.i64.wrap ((k : Int) + 2) = (k : Int) + 2 := IntWalk.i64_in _ (by omega)
      by_cases hput : ∃ (hn : k + 1 < s.size), ((s[k]'hlt).toNat : Int) = 36 ∧ Drl.isLet (s[k + 1]'hn) = true ∧ 0 ≤ v (s[k + 1]'hn).toNat
      · obtain ⟨hn, h36, hlet, hge⟩ := hput
        have hlet' := (isLet_iff _).1 hlet
        have e36 : (((s[k]'hlt).toNat : Int) == 36) = true := by simpa using h36
        have hc := HL.out.cell ((s[k + 1]'hn).toNat - 97) (by omega)
        rw [show 97 + ((s[k + 1]'hn).toNat - 97) = (s[k + 1]'hn).toNat by omega] at hc
        have hle := HV.out (s[k + 1]'hn).toNat
        have hfin := Lib.hid (fill_put v s k hlt hn h36 (by omega) hge)
        have hrl : Drl.rlet (s.extract (k + 1) (k + 2)).data.toList = (((s[k + 1]'hn).toNat - 97 : Nat) : Int) := by
          rw [rlet_one s (k + 1) hn, if_pos hlet]; omega
        have w4 : (k : Int) + 1 < (s.size : Int) := by omega
        have c1 : (k : Int) + 1 ≤ (k : Int) + 2 := by omega
        have c2 : (k : Int) + 2 ≤ (s.size : Int) := by omega
        have c3 : (0 : Int) ≤ (k : Int) + 1 := by omega
        have n1 : ((k : Int) + 1).toNat = k + 1 := by omega
        have n2 : ((k : Int) + 2).toNat = k + 2 := by omega
        clear h36 hlet
        obtain ⟨n, hn'⟩ : ∃ n : Nat, v (s[k + 1]'hn).toNat = n := ⟨(v (s[k + 1]'hn).toNat).toNat, by omega⟩
        rw [hn'] at hc hle hge
        have HNV := Lib.hid hn'
        have hlen := Drl.decDigits_len 5 n (by omega)
        have hi1 : ((s[k + 1]'hn).toNat - 97 : Nat) < 26 := by omega
        have hi2 : (((s[k + 1]'hn).toNat - 97 : Nat) : Int) < 26 := by omega
        generalize hcx : (s[k + 1]'hn).toNat - 97 = cx at hc hrl hi1 hi2
        have HRL := Lib.hid hrl
        clear hrl hn' hge hlet' hcx
        go_wp2_with fail
        refine (rletter_any (s.extract (k + 1) (k + 2)) wr).mono ?_
        rintro e w1 ⟨rfl, rfl⟩
        rw [HRL.out]
        go_wp2_with fail
        refine (rdigits_any n _ (by omega)).mono ?_
        rintro e w2 ⟨rfl, hb2⟩
        have hO2 := ownsRow_keep HO.out (Keep.of_next (S := fun _ => False) (es := fun _ => False) hb2) (fun _ _ _ _ => id) id
        have hL2 : LetAt w2 w.heap.size v := (hb2.block _ hLlt).trans HL.out
        have HL2 := Lib.hid hL2
        have hb3 := hb.trans (hb2.mono hsz)
        have hsz2 := hb3.size
        have hx63 : acc.length + (⟨(Lib.decDigits n).toArray⟩ : ByteArray).size ≤ 140737488355328 := by rw [size_of_list]; omega
        clear hL2 hb2 hc
        go_wp2_with (at_builtin; refine Lib.wpList_append_own_string _ rfl _ _ 80 9 rfl w.heap.size 5 i0 Tryz.underlying80 Tryz.underlying9 hi hz0 hz1 hz2 _ _ _ rfl hO2 ⟨(Lib.decDigits n).toArray⟩ rfl (by unfold maxLen; omega) hx63 hsz2 ?_; intro v' w3 hown' hgrow3 hnil3)
        go_roundw
        case rel =>
          rw [size_of_list] at hown'
          obtain ⟨ao3, cap3, rfl⟩ : ∃ ao3 cap3, v' = .slice ao3 (acc.length + (Lib.decDigits n).length) cap3 := by
            rcases hown'.2 with ⟨h, h'⟩ | ⟨g3, cap3, _, h, _⟩
            · exact ⟨none, 0, by rw [h, h']⟩
            · exact ⟨_, cap3, h⟩
          refine ⟨k + 2, acc ++ Lib.decDigits n, ao3, cap3, by omega, by go_num, by simp, ?_, ?_, hb3.grown hgrow3 (by omega) (fun q hq => (hO2.lt q hq).1), ?_, by rw [List.length_append]; omega⟩
          · rw [byteCells_str, List.length_append]; exact hown'
          · exact grown_heap hgrow3 HL2.out (fun e => by
              obtain ⟨c, fz, h, _⟩ := ownsRow_row hO2 _ e
              exact ne_of_type h HL2.out (by decide) rfl)
          · rw [← HA.out, hfin.out, HNV.out, List.append_assoc]; rfl
        case measure => simp only [intOf]; omega
      · -- a plain byte
        have hfin : Drl.filled v (s.data.toList.drop k) = (s[k]'hlt) :: Drl.filled v (s.data.toList.drop (k + 1)) := by
          by_cases h36 : ((s[k]'hlt).toNat : Int) = 36
          · by_cases hn : k + 1 < s.size
            · refine fill_not v s k hlt hn (fun e => ?_)
              by_cases hlet : Drl.isLet (s[k + 1]'hn) = true
              · exact hput ⟨hn, h36, hlet, e.2⟩
              · have h' := HLO.out (s[k + 1]'hn).toNat (by rw [isLet_iff] at hlet; omega)
                omega
            · exact fill_last v s k hlt (by omega)
          · exact fill_plain v s k hlt h36
        have HF := Lib.hid hfin
        have HNE := Lib.hid (show (Value.slice ao acc.length cv).ownBlock ≠ some w.heap.size from fun e => by
          obtain ⟨c, fz, h, _⟩ := ownsRow_row HO.out _ e
          exact ne_of_type h HL.out (by decide) rfl)
        clear hfin
        have hcases : (((s[k]'hlt).toNat : Int) == 36) = false ∨ ((((s[k]'hlt).toNat : Int) == 36) = true ∧ ((s.size : Int) ≤ (k : Int) + 1 ∨ ∃ hn : k + 1 < s.size, (Drl.rlet (s.extract (k + 1) (k + 2)).data.toList = -1 ∨ ∃ (cx : Nat) (z : Int), cx < 26 ∧ Drl.rlet (s.extract (k + 1) (k + 2)).data.toList = (cx : Int) ∧ wr.cell? ⟨w.heap.size, cx, none⟩ = some (.int .i64 z) ∧ z < 0))) := by
          by_cases h36 : ((s[k]'hlt).toNat : Int) = 36
          · refine .inr ⟨by simpa using h36, ?_⟩
            by_cases hn : k + 1 < s.size
            · refine .inr ⟨hn, ?_⟩
              by_cases hlet : Drl.isLet (s[k + 1]'hn) = true
              · have hlet' := (isLet_iff _).1 hlet
                refine .inr ⟨(s[k + 1]'hn).toNat - 97, v (s[k + 1]'hn).toNat, by omega, ?_, ?_, Int.not_le.1 fun e => hput ⟨hn, h36, hlet, e⟩⟩
                · rw [rlet_one s (k + 1) hn, if_pos hlet]; omega
                · have hc := HL.out.cell ((s[k + 1]'hn).toNat - 97) (by omega)
                  rw [show 97 + ((s[k + 1]'hn).toNat - 97) = (s[k + 1]'hn).toNat by omega] at hc
                  exact hc
              · left
                rw [rlet_one s (k + 1) hn, if_neg hlet]
            · left; omega
          · left; simpa using h36
        clear hput
        rcases hcases with e36 | ⟨e36, hl | ⟨hn, hr | ⟨cx, z, hcx, hr, hc, hz⟩⟩⟩
        · go_wp2_with (at_builtin; refine wpList_append_own _ rfl _ _ 80 rfl w.heap.size 5 i0 (.int .u8 0) 1 1 Tryz.underlying80 hi hz0 hz1 hz2 rfl (by decide) _ _ _ rfl (HO.out.alloc _) ⟨wr.heap.size, 0, none⟩ 1 1 [.int .u8 (s[k]'hlt).toNat] rfl rfl (cell_one_new _ _ _) (fun x hx => by simp at hx; subst hx; rfl) (by unfold maxLen; omega) (by omega) (by simp; omega) ?_; intro v' w3 hown' hgrow3 hnil3)
          go_roundw
          case rel =>
            obtain ⟨g3, cap3, rfl⟩ : ∃ g3 cap3, v' = .slice (some ⟨g3, 0, none⟩) (acc.length + 1) cap3 := by
              rcases hown'.2 with ⟨_, h⟩ | ⟨g3, cap3, _, h, _⟩
              · omega
              · exact ⟨g3, cap3, h⟩
            refine ⟨k + 1, acc ++ [s[k]'hlt], some ⟨g3, 0, none⟩, cap3, by omega, by go_num, by simp, ?_, ?_, (hb.alloc hsz _).grown hgrow3 (by simp; omega) (fun q hq => (HO.out.lt q hq).1), ?_, by simp; omega⟩
            · rw [byteCells_snoc, List.length_append, List.length_singleton]; exact hown'
            · exact grown_heap hgrow3 (heap_old HL.out) HNE.out
            · rw [← HA.out, HF.out]; simp
          case measure => simp only [intOf]; omega

        · go_wp2_with (at_builtin; refine wpList_append_own _ rfl _ _ 80 rfl w.heap.size 5 i0 (.int .u8 0) 1 1 Tryz.underlying80 hi hz0 hz1 hz2 rfl (by decide) _ _ _ rfl (HO.out.alloc _) ⟨wr.heap.size, 0, none⟩ 1 1 [.int .u8 (s[k]'hlt).toNat] rfl rfl (cell_one_new _ _ _) (fun x hx => by simp at hx; subst hx; rfl) (by unfold maxLen; omega) (by omega) (by simp; omega) ?_; intro v' w3 hown' hgrow3 hnil3)
          go_roundw
          case rel =>
            obtain ⟨g3, cap3, rfl⟩ : ∃ g3 cap3, v' = .slice (some ⟨g3, 0, none⟩) (acc.length + 1) cap3 := by
              rcases hown'.2 with ⟨_, h⟩ | ⟨g3, cap3, _, h, _⟩
              · omega
              · exact ⟨g3, cap3, h⟩
            refine ⟨k + 1, acc ++ [s[k]'hlt], some ⟨g3, 0, none⟩, cap3, by omega, by go_num, by simp, ?_, ?_, (hb.alloc hsz _).grown hgrow3 (by simp; omega) (fun q hq => (HO.out.lt q hq).1), ?_, by simp; omega⟩
            · rw [byteCells_snoc, List.length_append, List.length_singleton]; exact hown'
            · exact grown_heap hgrow3 (heap_old HL.out) HNE.out
            · rw [← HA.out, HF.out]; simp
          case measure => simp only [intOf]; omega

        · have w4 : (k : Int) + 1 < (s.size : Int) := by omega
          have c1 : (k : Int) + 1 ≤ (k : Int) + 2 := by omega
          have c2 : (k : Int) + 2 ≤ (s.size : Int) := by omega
          have c3 : (0 : Int) ≤ (k : Int) + 1 := by omega
          have n1 : ((k : Int) + 1).toNat = k + 1 := by omega
          have n2 : ((k : Int) + 2).toNat = k + 2 := by omega
          have HR := Lib.hid hr
          clear hr
          go_wp2_with fail
          refine (rletter_any (s.extract (k + 1) (k + 2)) wr).mono ?_
          rintro e w1 ⟨rfl, rfl⟩
          rw [HR.out]
          go_wp2_with (at_builtin; refine wpList_append_own _ rfl _ _ 80 rfl w.heap.size 5 i0 (.int .u8 0) 1 1 Tryz.underlying80 hi hz0 hz1 hz2 rfl (by decide) _ _ _ rfl (HO.out.alloc _) ⟨wr.heap.size, 0, none⟩ 1 1 [.int .u8 (s[k]'hlt).toNat] rfl rfl (cell_one_new _ _ _) (fun x hx => by simp at hx; subst hx; rfl) (by unfold maxLen; omega) (by omega) (by simp; omega) ?_; intro v' w3 hown' hgrow3 hnil3)
          go_roundw
          case rel =>
            obtain ⟨g3, cap3, rfl⟩ : ∃ g3 cap3, v' = .slice (some ⟨g3, 0, none⟩) (acc.length + 1) cap3 := by
              rcases hown'.2 with ⟨_, h⟩ | ⟨g3, cap3, _, h, _⟩
              · omega
              · exact ⟨g3, cap3, h⟩
            refine ⟨k + 1, acc ++ [s[k]'hlt], some ⟨g3, 0, none⟩, cap3, by omega, by go_num, by simp, ?_, ?_, (hb.alloc hsz _).grown hgrow3 (by simp; omega) (fun q hq => (HO.out.lt q hq).1), ?_, by simp; omega⟩
            · rw [byteCells_snoc, List.length_append, List.length_singleton]; exact hown'
            · exact grown_heap hgrow3 (heap_old HL.out) HNE.out
            · rw [← HA.out, HF.out]; simp
          case measure => simp only [intOf]; omega

        · have w4 : (k : Int) + 1 < (s.size : Int) := by omega
          have c1 : (k : Int) + 1 ≤ (k : Int) + 2 := by omega
          have c2 : (k : Int) + 2 ≤ (s.size : Int) := by omega
          have c3 : (0 : Int) ≤ (k : Int) + 1 := by omega
          have n1 : ((k : Int) + 1).toNat = k + 1 := by omega
          have n2 : ((k : Int) + 2).toNat = k + 2 := by omega
          have hi2 : (cx : Int) < 26 := by omega
          have HR := Lib.hid hr
          clear hr
          go_wp2_with fail
          refine (rletter_any (s.extract (k + 1) (k + 2)) wr).mono ?_
          rintro e w1 ⟨rfl, rfl⟩
          rw [HR.out]
          go_wp2_with (at_builtin; refine wpList_append_own _ rfl _ _ 80 rfl w.heap.size 5 i0 (.int .u8 0) 1 1 Tryz.underlying80 hi hz0 hz1 hz2 rfl (by decide) _ _ _ rfl (HO.out.alloc _) ⟨wr.heap.size, 0, none⟩ 1 1 [.int .u8 (s[k]'hlt).toNat] rfl rfl (cell_one_new _ _ _) (fun x hx => by simp at hx; subst hx; rfl) (by unfold maxLen; omega) (by omega) (by simp; omega) ?_; intro v' w3 hown' hgrow3 hnil3)
          go_roundw
          case rel =>
            obtain ⟨g3, cap3, rfl⟩ : ∃ g3 cap3, v' = .slice (some ⟨g3, 0, none⟩) (acc.length + 1) cap3 := by
              rcases hown'.2 with ⟨_, h⟩ | ⟨g3, cap3, _, h, _⟩
              · omega
              · exact ⟨g3, cap3, h⟩
            refine ⟨k + 1, acc ++ [s[k]'hlt], some ⟨g3, 0, none⟩, cap3, by omega, by go_num, by simp, ?_, ?_, (hb.alloc hsz _).grown hgrow3 (by simp; omega) (fun q hq => (HO.out.lt q hq).1), ?_, by simp; omega⟩
            · rw [byteCells_snoc, List.length_append, List.length_singleton]; exact hown'
            · exact grown_heap hgrow3 (heap_old HL.out) HNE.out
            · rw [← HA.out, HF.out]; simp
          case measure => simp only [intOf]; omega

    · have hcv := hconv wr ao cv acc HO.out
      have h := HA.out
      rw [drop_end s k (by omega), Drl.filled_nil, List.append_nil] at h
      have H := Lib.hid h
      clear h HA
      go_wp2_with fail
      go_ret
      refine ⟨?_, hb⟩
      show Ending.returned (.string ⟨acc.toArray⟩) = _
      rw [H.out]
end Go.Proofs.YtfbmlnkgjgnnhaaGreatDoor
