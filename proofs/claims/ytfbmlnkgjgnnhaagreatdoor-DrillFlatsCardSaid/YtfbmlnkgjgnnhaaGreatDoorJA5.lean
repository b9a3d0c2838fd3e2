import Derived.Test.YtfbmlnkgjgnnhaaGreatDoorJA1
import Derived.Test.YtfbmlnkgjgnnhaaGreatDoorJP0
import Derived.StillTailTactics
import Derived.Deep.RegionHeld3
import Derived.Deep.DeepFit
import Derived.ShutString
namespace Go.Proofs.YtfbmlnkgjgnnhaaGreatDoor
open Go.RowKit

theorem drop_at (s : ByteArray) (i : Nat) (h : i < s.size) : s.data.toList.drop i = s[i] :: s.data.toList.drop (i + 1) := by
  rw [List.drop_eq_getElem_cons (by rw [size_len]; exact h), get_list s i h]
theorem drop_end (s : ByteArray) (i : Nat) (h : s.size ≤ i) : s.data.toList.drop i = [] := List.drop_eq_nil_of_le (by rw [size_len]; exact h)

theorem fill_plain (v : Drl.Nums) (s : ByteArray) (i : Nat) (h : i < s.size) (hc : ((s[i]'h).toNat : Int) ≠ 36) : Drl.filled v (s.data.toList.drop i) = (s[i]'h) :: Drl.filled v (s.data.toList.drop (i + 1)) := by
  rw [drop_at s i h, Drl.filled_plain v _ _ (by omega)]
theorem fill_last (v : Drl.Nums) (s : ByteArray) (i : Nat) (h : i < s.size) (hc : s.size ≤ i + 1) : Drl.filled v (s.data.toList.drop i) = (s[i]'h) :: Drl.filled v (s.data.toList.drop (i + 1)) := by
  rw [drop_at s i h, drop_end s (i + 1) hc, Drl.filled_last]
theorem fill_not (v : Drl.Nums) (s : ByteArray) (i : Nat) (h : i < s.size) (h1 : i + 1 < s.size) (hc : ¬ ((s[i + 1]'h1).toNat < 128 ∧ 0 ≤ v (s[i + 1]'h1).toNat)) : Drl.filled v (s.data.toList.drop i) = (s[i]'h) :: Drl.filled v (s.data.toList.drop (i + 1)) := by
  rw [drop_at s i h, drop_at s (i + 1) h1, Drl.filled_not v _ _ _ hc]
theorem fill_put (v : Drl.Nums) (s : ByteArray) (i : Nat) (h : i < s.size) (h1 : i + 1 < s.size) (hd : ((s[i]'h).toNat : Int) = 36) (hc : ((s[i + 1]'h1).toNat : Int) < 128) (hv : 0 ≤ v (s[i + 1]'h1).toNat) : Drl.filled v (s.data.toList.drop i) = Lib.decDigits (v (s[i + 1]'h1).toNat).toNat ++ Drl.filled v (s.data.toList.drop (i + 2)) := by
  rw [drop_at s i h, drop_at s (i + 1) h1]; exact Drl.filled_put v _ _ _ (by omega) (by omega) hv

theorem below_dN {B : Nat} {a w : World} (h : Below B a w) (n : Nat) : Below B a (w.drewN n) := h.trans ⟨rfl, rfl, rfl, Nat.le_refl _, fun _ _ => rfl⟩
theorem byteCells_snoc (l : List UInt8) (c : UInt8) : Lib.byteCells (l ++ [c]) = Lib.byteCells l ++ [.int .u8 c.toNat] := by simp [Lib.byteCells]
theorem byteCells_str (l m : List UInt8) : Lib.byteCells (l ++ m) = Lib.byteCells l ++ Lib.strCells ⟨m.toArray⟩ := by
  rw [Lib.byteCells_append]; congr 1

theorem isBuilderF_keep {T e : TypeId} {B b : Nat} {bs : List Value} {w w' : World} (h : Lib.IsBuilderF T e B b bs w) (hk : ∀ k, k < w.heap.size → w'.heap[k]? = w.heap[k]?) : Lib.IsBuilderF T e B b bs w' := by
  have aux : ∀ p, Lib.BuilderAtF T e B b p bs w → Lib.BuilderAtF T e B b p bs w' := by
    rintro p ⟨hB, v, hb, hown, hne⟩
    refine ⟨hB, v, (hk b (Array.getElem?_eq_some_iff.1 hb).1).trans hb, ⟨hown.1, ?_⟩, hne⟩
    rcases hown.2 with h2 | ⟨g, cap, cur, fz, hv, hg, hh, r⟩
    · exact Or.inl h2
    · exact Or.inr ⟨g, cap, cur, fz, hv, hg, (hk g (Array.getElem?_eq_some_iff.1 hh).1).trans hh, r⟩
  exact h.elim (fun x => .inl (aux _ x)) (fun x => .inr (aux _ x))

set_option maxRecDepth 100000 in
set_option maxHeartbeats 1000000 in
theorem filled_any (v : Drl.Nums) (V : Nat) (s : ByteArray) (w : World) (hE : Env w) (hN : NumsAt w V v) (hv : ∀ c, v c ≤ 999999) (hs : s.size ≤ 65536) :
    Calls Tryz.prog 68 #[.pointer (some ⟨V, 0, none⟩), .string s] w fun e w' => e = .returned (.string ⟨(Drl.filled v s.data.toList).toArray⟩) ∧ Below w.heap.size w w' := by
  have hV := hN.lt
  have hsz := hE.size
  go_enter Tryz.func68, Tryz.ntmps68
  go_wp2
  go_loopw [6] (fun i wr => ∃ (k : Nat) (acc : List UInt8), k ≤ s.size ∧ i = .int .i64 k ∧ Lib.IsBuilderF 83 5 w.heap.size w.heap.size (Lib.byteCells acc) wr ∧ Below w.heap.size w wr ∧ acc ++ Drl.filled v (s.data.toList.drop k) = Drl.filled v s.data.toList ∧ acc.length ≤ 6 * k) (fun i _ => s.size - (intOf i).toNat)
  case atStart =>
    exact ⟨0, [], by omega, rfl, Lib.IsBuilderF.of (Lib.fresh_isBuilder 83 5 w), (Below.refl _ w).alloc (Nat.le_refl _) _, by simp, by simp⟩
  case round =>
    obtain ⟨k, acc, hk, rfl, hI, hb, hacc, hal⟩ := hrel
    have HA := Lib.hid hacc
    have HE := Lib.hid hE
    have HN := Lib.hid hN
    have HV := Lib.hid hv
    clear hacc hE hN hv
    by_cases hlt : k < s.size
    · by_cases hput : ∃ (hn : k + 1 < s.size), ((s[k]'hlt).toNat : Int) = 36 ∧ ((s[k + 1]'hn).toNat : Int) < 128 ∧ 0 ≤ v (s[k + 1]'hn).toNat
      · -- a number is put in
        obtain ⟨hn, h36, h128, hge⟩ := hput
        have hN' : NumsAt wr V v := by
          have := HN.out
          unfold NumsAt at this ⊢
          rw [hb.block V hV]; exact this
        have hc := hN'.cell (s[k + 1]'hn).toNat (by omega)
        have hfin := Lib.hid (fill_put v s k hlt hn h36 h128 hge)
        have hle := HV.out (s[k + 1]'hn).toNat
        have e36 : (((s[k]'hlt).toNat : Int) == 36) = true := by simpa using h36
        have hcn : (s[k + 1]'hn).toNat < 128 := by omega
        have HN2 := Lib.hid hN'
        have w1 : IntKind.i64.wrap ((k : Int) + 1) = (k : Int) + 1 := IntWalk.i64_in _ (by omega)
        have w2 : (0 : Int) ≤ (k : Int) + 1 := by omega
        have w3 : ((k : Int) + 1).toNat = k + 1 := by omega
        have w4 : (k : Int) + 1 < (s.size : Int) := by omega
        have w7 : decide ((0 : Int) ≤ v (s[k + 1]'hn).toNat) = true := by simpa using hge
        clear h36 hN'
        go_wp2_with fail
        go_quiet (fail)
        go_wp2_with fail
        generalize hw2 : wr.drewN nq = w2
        have hI2 : Lib.IsBuilderF 83 5 w.heap.size w.heap.size (Lib.byteCells acc) w2 := by subst hw2; exact hI
        have hb2 : Below w.heap.size w w2 := by subst hw2; exact below_dN hb nq
        have hc2 : w2.cell? ⟨V, (s[k + 1]'hn).toNat, none⟩ = some (.int .i64 (v (s[k + 1]'hn).toNat)) := by subst hw2; exact hc
        clear hw2
        go_still_tail 7, (by kernel_rfl)
        change wpList _ _ _ _ _ w2.drew
        generalize hw3 : w2.drew = w3
        have hI3 : Lib.IsBuilderF 83 5 w.heap.size w.heap.size (Lib.byteCells acc) w3 := by subst hw3; exact hI2
        have hb3 : Below w.heap.size w w3 := by subst hw3; exact hb2.drew
        clear hw3
        go_wp2_with fail
        refine (itoa_ok _ hge (by omega) _ (HE.out.next hb3)).mono ?_
        rintro e w4 ⟨rfl, hb4⟩
        have hI4 := isBuilderF_keep hI3 hb4.block
        have hlen := Drl.decDigits_len 5 (v (s[k + 1]'hn).toNat).toNat (by omega)
        have hsz4 := Nat.le_trans hb3.size hb4.size
        go_wp2_with fail
        refine (WriteString_k w.heap.size w.heap.size _ _ _ hI4 (by rw [Lib.byteCells_length, size_of_list]; omega) hsz4).mono ?_
        rintro e W1 ⟨rfl, h1, b1, k1⟩
        go_wp2_with fail
        go_roundw
        case rel =>
          refine ⟨k + 2, acc ++ Lib.decDigits (v (s[k + 1]'hn).toNat).toNat, by omega, by go_num, ?_, (hb3.trans (hb4.mono hb3.size)).trans b1, ?_, by rw [List.length_append]; omega⟩
          · rw [byteCells_str]; exact Or.inr h1
          · rw [← HA.out, hfin.out, List.append_assoc]
        case measure => simp [intOf]; omega
      · -- a plain byte
        have hfin : Drl.filled v (s.data.toList.drop k) = (s[k]'hlt) :: Drl.filled v (s.data.toList.drop (k + 1)) := by
          by_cases h36 : ((s[k]'hlt).toNat : Int) = 36
          · by_cases hn : k + 1 < s.size
            · exact fill_not v s k hlt hn (fun e => hput ⟨hn, h36, by omega, e.2⟩)
            · exact fill_last v s k hlt (by omega)
          · exact fill_plain v s k hlt h36
        have HF := Lib.hid hfin
        clear hfin
        have hcases : (((s[k]'hlt).toNat : Int) == 36) = false ∨ ((((s[k]'hlt).toNat : Int) == 36) = true ∧ ((decide (((k : Int) + 1) < (s.size : Int)) = false) ∨ ∃ hn : k + 1 < s.size, (decide (((s[k + 1]'hn).toNat : Int) < 128) = false ∨ ((s[k + 1]'hn).toNat < 128 ∧ wr.cell? ⟨V, (s[k + 1]'hn).toNat, none⟩ = some (.int .i64 (v (s[k + 1]'hn).toNat)) ∧ v (s[k + 1]'hn).toNat < 0)))) := by
          by_cases h36 : ((s[k]'hlt).toNat : Int) = 36
          · refine .inr ⟨by simpa using h36, ?_⟩
            by_cases hn : k + 1 < s.size
            · refine .inr ⟨hn, ?_⟩
              by_cases h128 : ((s[k + 1]'hn).toNat : Int) < 128
              · refine .inr ⟨by omega, ?_, ?_⟩
                · have hN' : NumsAt wr V v := by
                    have := HN.out
                    unfold NumsAt at this ⊢
                    rw [hb.block V hV]; exact this
                  exact hN'.cell _ (by omega)
                · exact Int.not_le.1 fun e => hput ⟨hn, h36, h128, e⟩
              · left; simpa using h128
            · left; simp; omega
          · left; simpa using h36
        clear hput
        have w1 : IntKind.i64.wrap ((k : Int) + 1) = (k : Int) + 1 := IntWalk.i64_in _ (by omega)
        have w2 : (0 : Int) ≤ (k : Int) + 1 := by omega
        have w3 : ((k : Int) + 1).toNat = k + 1 := by omega
        have w4 : k + 1 < s.size → (k : Int) + 1 < (s.size : Int) := by omega
        rcases hcases with e36 | ⟨e36, hl | ⟨hn, h128 | ⟨h128, hcv, hneg⟩⟩⟩
        · clear w4
          go_wp2_with fail
          go_quiet (fail)
          go_wp2_with fail
          refine (WriteByte_k w.heap.size w.heap.size _ _ _ (show Lib.IsBuilderF _ _ _ _ _ (wr.drewN nq) from hI) (by rw [Lib.byteCells_length]; omega) hb.size).mono ?_
          rintro e W1 ⟨rfl, h1, b1, k1⟩
          go_wp2_with fail
          go_roundw
          case rel =>
            refine ⟨k + 1, acc ++ [s[k]'hlt], by omega, by go_num, ?_, (below_dN hb nq).trans b1, ?_, by simp; omega⟩
            · rw [byteCells_snoc]; exact Or.inr h1
            · rw [← HA.out, HF.out]; simp
          case measure => simp [intOf]; omega
        · clear w4
          go_wp2_with fail
          go_quiet (fail)
          go_wp2_with fail
          refine (WriteByte_k w.heap.size w.heap.size _ _ _ (show Lib.IsBuilderF _ _ _ _ _ (wr.drewN nq) from hI) (by rw [Lib.byteCells_length]; omega) hb.size).mono ?_
          rintro e W1 ⟨rfl, h1, b1, k1⟩
          go_wp2_with fail
          go_roundw
          case rel =>
            refine ⟨k + 1, acc ++ [s[k]'hlt], by omega, by go_num, ?_, (below_dN hb nq).trans b1, ?_, by simp; omega⟩
            · rw [byteCells_snoc]; exact Or.inr h1
            · rw [← HA.out, HF.out]; simp
          case measure => simp [intOf]; omega
        · have w5 := w4 hn
          clear w4
          go_wp2_with fail
          go_quiet (fail)
          go_wp2_with fail
          refine (WriteByte_k w.heap.size w.heap.size _ _ _ (show Lib.IsBuilderF _ _ _ _ _ (wr.drewN nq) from hI) (by rw [Lib.byteCells_length]; omega) hb.size).mono ?_
          rintro e W1 ⟨rfl, h1, b1, k1⟩
          go_wp2_with fail
          go_roundw
          case rel =>
            refine ⟨k + 1, acc ++ [s[k]'hlt], by omega, by go_num, ?_, (below_dN hb nq).trans b1, ?_, by simp; omega⟩
            · rw [byteCells_snoc]; exact Or.inr h1
            · rw [← HA.out, HF.out]; simp
          case measure => simp [intOf]; omega
        · have w5 := w4 hn
          have w6 : ((s[k + 1]'hn).toNat : Int) < 128 := by omega
          have w7 : decide ((0 : Int) ≤ v (s[k + 1]'hn).toNat) = false := by simpa using hneg
          clear w4 h128
          go_wp2_with fail
          go_quiet (fail)
          go_wp2_with fail
          refine (WriteByte_k w.heap.size w.heap.size _ _ _ (show Lib.IsBuilderF _ _ _ _ _ (wr.drewN nq) from hI) (by rw [Lib.byteCells_length]; omega) hb.size).mono ?_
          rintro e W1 ⟨rfl, h1, b1, k1⟩
          go_wp2_with fail
          go_roundw
          case rel =>
            refine ⟨k + 1, acc ++ [s[k]'hlt], by omega, by go_num, ?_, (below_dN hb nq).trans b1, ?_, by simp; omega⟩
            · rw [byteCells_snoc]; exact Or.inr h1
            · rw [← HA.out, HF.out]; simp
          case measure => simp [intOf]; omega
    · go_wp2_with (go_at_call 31; refine (Tryz.Builder_String_any_k w.heap.size w.heap.size acc _ hI hb.size).mono ?_)
      rintro e W1 ⟨rfl, _, b1, _⟩
      go_wp2
      go_ret
      have h := HA.out
      rw [drop_end s k (by omega), Drl.filled_nil, List.append_nil] at h
      subst h
      exact ⟨rfl, hb.trans b1⟩
end Go.Proofs.YtfbmlnkgjgnnhaaGreatDoor
