import Derived.Test.YtfbmlnkgjgnnhaaGreatDoorJA27
import Derived.Test.YtfbmlnkgjgnnhaaGreatDoorJFT
import Derived.Test.YtfbmlnkgjgnnhaaGreatDoorJP10
import Derived.Test.YtfbmlnkgjgnnhaaGreatDoorJR1
set_option linter.unusedSimpArgs false
set_option linter.unusedVariables false
namespace Go.Proofs.YtfbmlnkgjgnnhaaGreatDoor
open Go.RowKit

set_option maxRecDepth 100000
set_option maxHeartbeats 8000000

/-- what the reference's Flat leaves -/
def RFlatPost (w : World) (r : Except Drl.Err (List Drl.Dr × Nat)) (e : Ending) (w' : World) : Prop :=
  Below w.heap.size w w' ∧ match r with
    | .error x => e = .returned (.tuple #[.string ⟨#[]⟩, .int .i64 (x.2 : Nat), .int .i64 (x.1 : Nat)]) ∧ x.2 ≠ 0
    | .ok a => e = .returned (.tuple #[.string ⟨(Drl.flatText a.1 a.2).toArray⟩, .int .i64 0, .int .i64 0])

theorem rflat_err (s : ByteArray) (w : World) (x : Drl.Err) (hU : ∀ W, Calls Tryz.prog 8 #[.string s] W (RUnrollPost W (.error x))) : Calls Tryz.prog 17 #[.string s] w (RFlatPost w (.error x)) := by
  have HU := Lib.hid hU
  clear hU
  go_enter Tryz.func17, Tryz.ntmps17
  go_wp2_with fail
  refine (HU.out w).mono ?_
  rintro e w1 ⟨hb, rfl, hne⟩
  have e7 : ((x.2 : Int) != 0) = true := by simp [bne]; omega
  have HB := Lib.hid hb
  have HNE := Lib.hid hne
  clear hb hne
  go_wp2_with fail
  go_ret3
  exact ⟨HB.out, rfl, HNE.out⟩

theorem ownsT_lt {w : World} {base : Nat} {e : TypeId} {v : Value} {n : Nat} {xs : List Value} (h : OwnsT w base e v n xs) : ∀ q, v.ownBlock = some q → base ≤ q := by
  obtain ⟨_, g, cap, cur, fz, rfl, hb, _⟩ := h
  intro q hq
  simp [Value.ownBlock] at hq
  omega
theorem ownsT_alloc {w : World} {base : Nat} {e : TypeId} {v : Value} {n : Nat} {xs : List Value} (h : OwnsT w base e v n xs) (o : Obj) : OwnsT (w.alloc o) base e v n xs := by
  obtain ⟨h0, g, cap, cur, fz, h1, h2, h3, h4⟩ := h
  exact ⟨h0, g, cap, cur, fz, h1, h2, heap_old h3, h4⟩
theorem ownsT_form {w : World} {base : Nat} {e : TypeId} {v : Value} {n : Nat} {xs : List Value} (h : OwnsT w base e v n xs) : ∃ g cap, v = .slice (some ⟨g, 0, none⟩) n cap := by
  obtain ⟨_, g, cap, cur, fz, h1, _⟩ := h
  exact ⟨g, cap, h1⟩

theorem wpList_append_tu {P : Program} {w : World} {ops : Array Oper} {rest : List Oper} {o : Oper} {a : Act} {Q : Exit → Act → World → Prop} (hgd : o.guard = none) (s x : Operand) (t u : TypeId)
    (ho : o.op = .call { callee := .builtin .append, args := #[s, x], argTypes := #[t, u] }) (h : ∃ r w', (Builtin.append_ #[t, u] o.type #[a.eval s, a.eval x]).run P w = .ok r w' ∧ wpList P ops Q rest (a.put o.dst r) w') : wpList P ops Q (o :: rest) a w := by
  obtain ⟨r, w', h1, h2⟩ := h
  refine wpList_plain hgd fun K hK => ?_
  unfold Oper.wp execOp
  simp only [ho, resolve, invoke, builtin, Sem.run_bind, Sem.run_pure, Result.andThen_ok, List.map_toArray, List.map_cons, List.map_nil, h1]
  exact hK _ _ h2

/-- the text so far -/
structure Buf (w2 W : World) (l : List UInt8) (v : Value) : Prop where
  own : OwnsT W w2.heap.size 5 v l.length (Lib.byteCells l)
  keep : Below w2.heap.size w2 W
theorem Buf.form {w2 W : World} {l : List UInt8} {v : Value} (h : Buf w2 W l v) : ∃ g cap, v = .slice (some ⟨g, 0, none⟩) l.length cap := ownsT_form h.own
theorem Buf.str {w2 W : World} {l : List UInt8} {v : Value} (h : Buf w2 W l v) (s : ByteArray) (hl : l.length + s.size ≤ 140737488355328) :
    ∃ v' W', (Builtin.append_ #[80, 9] 80 #[v, .string s]).run Tryz.prog W = .ok v' W' ∧ Buf w2 W' (l ++ s.data.toList) v' := by
  obtain ⟨i0, hi, hz0, hz1, hz2⟩ := info_parts infoByte
  obtain ⟨v', W', h1, h2, h3⟩ := append_string_T (P := Tryz.prog) W w2.heap.size 80 9 80 5 i0 Tryz.underlying80 Tryz.underlying9 hi hz0 hz1 hz2 v l.length (Lib.byteCells l) h.own s hl h.keep.size
  refine ⟨v', W', h1, ?_, h.keep.grown h3 h.keep.size (fun q hq => ownsT_lt h.own q hq)⟩
  have e1 : (l ++ s.data.toList).length = l.length + s.size := by rw [List.length_append, size_len]
  have e2 : Lib.byteCells (l ++ s.data.toList) = Lib.byteCells l ++ Lib.strCells s := by rw [byteCells_str]
  rw [e1, e2]
  exact h2
theorem Buf.byte {w2 W : World} {l : List UInt8} {v : Value} (h : Buf w2 W l v) (c : UInt8) (x : Int) (hx : (c.toNat : Int) = x) (hl : l.length + 1 ≤ 140737488355328) :
    ∃ v' W', (Builtin.append_ #[80, 80] 80 #[v, .slice (some ⟨W.heap.size, 0, none⟩) 1 1]).run Tryz.prog (W.alloc (.cells #[.int .u8 x] 5)) = .ok v' W' ∧ Buf w2 W' (l ++ [c]) v' := by
  subst hx
  obtain ⟨i0, hi, hz0, hz1, hz2⟩ := info_parts infoByte
  have hk := h.keep.alloc h.keep.size (.cells #[.int .u8 c.toNat] 5)
  have ho := ownsT_alloc h.own (.cells #[.int .u8 c.toNat] 5)
  obtain ⟨v', W', h1, h2, h3⟩ := append_byte_T (P := Tryz.prog) (W.alloc (.cells #[.int .u8 c.toNat] 5)) w2.heap.size 80 80 5 i0 Tryz.underlying80 hi hz0 hz1 hz2 v l.length (Lib.byteCells l) ho ⟨W.heap.size, 0, none⟩ 1 c.toNat (cell_one (heap_new W _)) hl hk.size
  refine ⟨v', W', h1, ?_, hk.grown h3 hk.size (fun q hq => ownsT_lt ho q hq)⟩
  rw [byteCells_snoc, List.length_append, List.length_singleton]
  exact h2
theorem Buf.conv {w2 W : World} {l : List UInt8} {v : Value} (h : Buf w2 W l v) : (convert 80 9 v).run Tryz.prog W = .ok (.string ⟨l.toArray⟩) W := by
  obtain ⟨_, g, cap, cur, fz, rfl, _, hh, _, hnc, _, hcs, htk⟩ := h.own
  refine run_convert_bytes_back (P := Tryz.prog) W 80 9 5 ⟨g, 0, none⟩ cap l Tryz.underlying80 Tryz.underlying5 Tryz.underlying9 (fun j hj => ?_)
  have hadd : (⟨g, 0, none⟩ : Addr).add j = ⟨g, j, none⟩ := by unfold Addr.add; split <;> simp_all
  rw [hadd]
  refine cell_of hh ?_
  have h1 : (cur.toList.take l.length)[j]? = some (.int .u8 (l[j].toNat : Int)) := by
    rw [htk]
    simp [Lib.byteCells, hj]
  rw [List.getElem?_take, if_pos hj] at h1
  simpa using h1

theorem rflat_fine (s : ByteArray) (w : World) (l : List Drl.Dr) (n : Nat) (hl : l.length ≤ 4096) (hn : n ≤ 64) (hx : ∀ x ∈ l, x.text.length ≤ 393216) (hU : ∀ W, Calls Tryz.prog 8 #[.string s] W (RUnrollPost W (.ok (l, n)))) : Calls Tryz.prog 17 #[.string s] w (RFlatPost w (.ok (l, n))) := by
  have HU := Lib.hid hU
  have HX := Lib.hid hx
  have hhl := Drl.flatHead_len n hn
  have hdl := Drl.decDigits_len 1 n (by omega)
  have hcv := fun (W : World) (t : ByteArray) => run_bytes_of_string (P := Tryz.prog) W 9 80 5 t Tryz.underlying9 Tryz.underlying80 Tryz.underlying5
  clear hU hx
  go_enter Tryz.func17, Tryz.ntmps17
  go_wp2_with fail
  refine (HU.out w).mono ?_
  rintro e w1 ⟨hb, sv, rfl, hown⟩
  have HB := Lib.hid hb
  obtain ⟨ao, cap, rfl, hcells⟩ : ∃ ao cap, sv = .slice ao l.length cap ∧ (l ≠ [] → ∃ g, ao = some ⟨g, 0, none⟩ ∧ l.length ≤ cap ∧ StepsIn w1 g l ∧ g < w1.heap.size) := by
    rcases StepsOwn.at_ hown with ⟨rfl, rfl⟩ | ⟨g, cap, rfl, q1, q3, _, q2⟩
    · exact ⟨none, 0, rfl, fun h => absurd rfl h⟩
    · exact ⟨some ⟨g, 0, none⟩, cap, rfl, fun _ => ⟨g, rfl, q1, q2, q3⟩⟩
  have HC := Lib.hid hcells
  have e70 : ((0 : Int) != 0) = false := by decide
  clear hb hown hcells
  go_wp2_with fail
  refine (rdigits_any n _ (by omega)).mono ?_
  rintro e w2 ⟨rfl, hb2⟩
  have HB2 := Lib.hid (HB.out.trans (hb2.mono HB.out.size))
  have HB12 := Lib.hid hb2
  obtain ⟨dd, hdd⟩ : ∃ dd : ByteArray, dd = ⟨(Lib.decDigits n).toArray⟩ := ⟨_, rfl⟩
  have hds : dd.size ≤ 2 := by rw [hdd, size_of_list]; exact hdl
  have hhead : ((⟨#[99, 108, 105, 101, 110, 116, 115, 32]⟩ : ByteArray) ++ dd ++ ⟨#[10]⟩).data.toList = Drl.flatHead n := by
    rw [hdd]; simp [Drl.flatHead, Drl.wClients]
  rw [← hdd]
  have HH := Lib.hid hhead
  clear hb2 hdd hhead
  have hdz : ((⟨#[99, 108, 105, 101, 110, 116, 115, 32]⟩ : ByteArray) ++ dd ++ ⟨#[10]⟩).size = (Drl.flatHead n).length := by rw [← HH.out, size_len]
  have hdz8 : ((⟨#[99, 108, 105, 101, 110, 116, 115, 32]⟩ : ByteArray) ++ dd ++ ⟨#[10]⟩).size = 8 + dd.size + 1 := by rw [ByteArray.size_append, ByteArray.size_append]; rfl
  have hbf : Buf w2 ((w2.alloc (.cells (bytesRow ((⟨#[99, 108, 105, 101, 110, 116, 115, 32]⟩ : ByteArray) ++ dd ++ ⟨#[10]⟩) (grownCap w2 (8 + dd.size + 1) 0 5)) 5 ((bytesRow ((⟨#[99, 108, 105, 101, 110, 116, 115, 32]⟩ : ByteArray) ++ dd ++ ⟨#[10]⟩) (grownCap w2 (8 + dd.size + 1) 0 5)).size, (bytesRow ((⟨#[99, 108, 105, 101, 110, 116, 115, 32]⟩ : ByteArray) ++ dd ++ ⟨#[10]⟩) (grownCap w2 (8 + dd.size + 1) 0 5)).size + 1))).drew) (Drl.flatHead n) (.slice (some ⟨w2.heap.size, 0, none⟩) (8 + dd.size + 1) (grownCap w2 (8 + dd.size + 1) 0 5)) := by
    refine ⟨?_, below_drew ((Below.refl _ w2).alloc (Nat.le_refl _) _)⟩
    have h := ownsT_of_string w2 w2.heap.size 5 ((⟨#[99, 108, 105, 101, 110, 116, 115, 32]⟩ : ByteArray) ++ dd ++ ⟨#[10]⟩) (by rw [hdz]; omega) (Nat.le_refl _)
    have e : Lib.strCells ((⟨#[99, 108, 105, 101, 110, 116, 115, 32]⟩ : ByteArray) ++ dd ++ ⟨#[10]⟩) = Lib.byteCells (Drl.flatHead n) := by
      unfold Lib.strCells; rw [HH.out]; rfl
    rw [e, hdz8] at h
    rw [← hdz, hdz8]
    exact h
  have HBF0 := Lib.hid hbf
  have HDZ := Lib.hid hdz
  clear hbf hdz
  go_wp2_with fail
  go_loopw [9, 10] (fun ov iv wr => ∃ m : Nat, m ≤ l.length ∧ iv = .int .i64 m ∧ Buf w2 wr (Drl.flatHead n ++ Drl.flatAll (l.take m)) ov) (fun _ iv _ => l.length - (intOf iv).toNat)
  case atStart =>
    refine ⟨0, Nat.zero_le _, rfl, ?_⟩
    have := HBF0.out
    have e : Drl.flatHead n ++ Drl.flatAll (l.take 0) = Drl.flatHead n := by simp [Drl.flatAll]
    rw [e]
    exact this
  case round =>
    obtain ⟨m, hm, rfl, hbf⟩ := hrel
    have HBF := Lib.hid hbf
    clear hbf HBF0
    by_cases hml : m < l.length
    · obtain ⟨g, rfl, hcap, hin, hg⟩ := HC.out (by rintro rfl; simp at hml)
      obtain ⟨x, hxm⟩ : ∃ x, l[m]? = some x := ⟨l[m], List.getElem?_eq_getElem hml⟩
      have d := hin m x hxm
      have hxl := HX.out x (List.mem_of_getElem? hxm)
      have hal : (Drl.flatHead n ++ Drl.flatAll (l.take m)).length ≤ 16 + 393300 * m := by
        have := Drl.flatAll_len (l.take m) (fun y hy => HX.out y (List.mem_of_mem_take hy))
        rw [List.length_append]
        have hlt : (l.take m).length ≤ m := List.length_take_le _ _
        have := Nat.mul_le_mul_left 393300 hlt
        omega
      have htk := Drl.flatAll_take hxm
      obtain ⟨t, ht⟩ : ∃ t : ByteArray, t = ⟨x.text.toArray⟩ := ⟨_, rfl⟩
      have htv : strV x.text = .string t := by rw [ht]; rfl
      have htl : t.data.toList = x.text := by rw [ht]
      have htz : t.size = x.text.length := by rw [← htl, size_len]
      have hct : ∀ W, Below w2.heap.size w2 W → W.cell? ⟨g, m * 3 + 1, none⟩ = some (.string t) := fun W hW => by
        rw [← htv]; exact below_cell hW (below_cell HB12.out d.c1)
      have c2 : wr.cell? ⟨g, m * 3 + 2, none⟩ = some (.bool x.want) := below_cell HBF.out.keep (below_cell HB12.out d.c2)
      have HCT := Lib.hid hct
      have HTK := Lib.hid htk
      have HTL := Lib.hid htl
      have hl3 : (m : Int) < (l.length : Int) := by omega
      generalize hbs : Drl.flatHead n ++ Drl.flatAll (l.take m) = bs at HBF hal
      have HBS := Lib.hid hbs
      have h6 : ((⟨#[101, 120, 112, 101, 99, 116]⟩ : ByteArray)).size = 6 := rfl
      clear d hin hct htk ht htv htl hxm hbs
      cases hw : x.want with
      | false =>
        rw [hw] at c2
        have HW := Lib.hid hw
        have k0 := HCT.out wr HBF.out.keep
        obtain ⟨v1, x1, run1, b1⟩ := HBF.out.str t (by omega)
        obtain ⟨v2, x2, run2, b2⟩ := b1.byte 10 10 rfl (by rw [List.length_append, size_len]; omega)
        have HBN := Lib.hid b2
        clear hw b1 b2 h6
        go_wp2_with (first | (at_builtin; refine wpList_append_tu rfl _ _ 80 9 rfl ?_; first | refine ⟨_, _, run1, ?_⟩) | (at_builtin; refine wpList_append_tu rfl _ _ 80 80 rfl ?_; first | refine ⟨_, _, run2, ?_⟩))
        go_roundw
        case rel =>
          have hb' := HBN.out
          have hle : Drl.flatHead n ++ Drl.flatAll (l.take (m + 1)) = bs ++ t.data.toList ++ [10] := by rw [HTK.out, ← HBS.out]; simp only [List.append_assoc]; congr 1; congr 1; unfold Drl.flatLine; rw [if_pos HW.out, HTL.out]
          exact ⟨m + 1, by omega, by go_num, by rw [hle]; exact hb'⟩
        case measure => simp [intOf]; omega
      | true =>
        rw [hw] at c2
        have HW := Lib.hid hw
        obtain ⟨v1, x1, run1, b1⟩ := HBF.out.str ⟨#[101, 120, 112, 101, 99, 116]⟩ (by omega)
        have k1 := HCT.out x1 b1.keep
        by_cases h0 : t.size = 0
        · have e0 : t.toList.isEmpty = true := by rw [toList_nil h0]; rfl
          have HX0 := Lib.hid (show x.text = [] by rw [← HTL.out]; exact List.eq_nil_of_length_eq_zero (by rw [size_len]; exact h0))
          obtain ⟨v2, x2, run2, b2⟩ := b1.str t (by rw [List.length_append, size_len]; omega)
          obtain ⟨v3, x3, run3, b3⟩ := b2.byte 10 10 rfl (by rw [List.length_append, List.length_append, size_len, size_len]; omega)
          have HBN := Lib.hid b3
          clear hw b1 b2 b3 h6
          go_wp2_with (first | (at_builtin; refine wpList_append_tu rfl _ _ 80 9 rfl ?_; first | refine ⟨_, _, run1, ?_⟩ | refine ⟨_, _, run2, ?_⟩) | (at_builtin; refine wpList_append_tu rfl _ _ 80 80 rfl ?_; first | refine ⟨_, _, run3, ?_⟩))
          go_roundw
          case rel =>
            have hb' := HBN.out
            have hle : Drl.flatHead n ++ Drl.flatAll (l.take (m + 1)) = bs ++ (⟨#[101, 120, 112, 101, 99, 116]⟩ : ByteArray).data.toList ++ t.data.toList ++ [10] := by rw [HTK.out, ← HBS.out, HTL.out, HX0.out]; simp only [List.append_assoc]; congr 1; congr 1; unfold Drl.flatLine; rw [if_neg (by rw [HW.out]; decide), if_pos HX0.out]; rfl
            exact ⟨m + 1, by omega, by go_num, by rw [hle]; exact hb'⟩
          case measure => simp [intOf]; omega
        · have e0 : t.toList.isEmpty = false := by have := toList_some (s := t) (by omega); simpa using this
          have HX0 := Lib.hid (show x.text ≠ [] by rw [← HTL.out]; intro h; apply h0; rw [← size_len t, h]; rfl)
          obtain ⟨v2, x2, run2, b2⟩ := b1.byte 32 32 rfl (by rw [List.length_append, size_len]; omega)
          have k2 := HCT.out x2 b2.keep
          obtain ⟨v3, x3, run3, b3⟩ := b2.str t (by rw [List.length_append, List.length_append, size_len]; simp only [List.length_singleton]; omega)
          obtain ⟨v4, x4, run4, b4⟩ := b3.byte 10 10 rfl (by rw [List.length_append, List.length_append, List.length_append, size_len, size_len]; simp only [List.length_singleton]; omega)
          have HBN := Lib.hid b4
          clear hw b1 b2 b3 b4 h6
          go_wp2_with (first | (at_builtin; refine wpList_append_tu rfl _ _ 80 9 rfl ?_; first | refine ⟨_, _, run1, ?_⟩ | refine ⟨_, _, run3, ?_⟩) | (at_builtin; refine wpList_append_tu rfl _ _ 80 80 rfl ?_; first | refine ⟨_, _, run2, ?_⟩ | refine ⟨_, _, run4, ?_⟩))
          go_roundw
          case rel =>
            have hb' := HBN.out
            have hle : Drl.flatHead n ++ Drl.flatAll (l.take (m + 1)) = bs ++ (⟨#[101, 120, 112, 101, 99, 116]⟩ : ByteArray).data.toList ++ [32] ++ t.data.toList ++ [10] := by rw [HTK.out, ← HBS.out, HTL.out]; simp only [List.append_assoc]; congr 1; congr 1; unfold Drl.flatLine; rw [if_neg (by rw [HW.out]; decide), if_neg HX0.out]; simp [Drl.wExpect]
            exact ⟨m + 1, by omega, by go_num, by rw [hle]; exact hb'⟩
          case measure => simp [intOf]; omega
    · have hcf := HBF.out.conv
      have HBE := Lib.hid (HB2.out.trans (HBF.out.keep.mono HB2.out.size))
      go_wp2_with fail
      go_ret3
      refine ⟨HBE.out, ?_⟩
      rw [List.take_of_length_le (by omega)]
      rfl
end Go.Proofs.YtfbmlnkgjgnnhaaGreatDoor
